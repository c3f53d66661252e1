import Derived.Test.YtldfncafkdmoiaaFZ
namespace Go.Proofs.Ytldfncafkdmoiaa
open Go.SL
/-! ### symMerge: what is behind the search: plain -/
section
variable {g : FuncId} {cmp : Nat → Nat → Int} {re : Nat} {rd : List (List D)}
set_option maxHeartbeats 4000000 in
theorem symEnd (m0 : Nat) (p : Nat → Prop) (hO : Sort.SWO (ltOf cmp)) (n a m b mid s s0 r0 : Nat) (A U V B : List Nat) (ha : A.length = a) (hm : a + U.length = m) (hb : m + V.length = b) (hn : (A ++ (U ++ (V ++ B))).length = n) (hle : n ≤ 4096) (hpU : ∀ x ∈ U, p x) (hpV : ∀ x ∈ V, p x) (hSU : SortedL (ltOf cmp) U) (hSV : SortedL (ltOf cmp) V) (k : Nat) (ih : ∀ (n a m b : Nat) (A U V B : List Nat), U.length + V.length ≤ k → A.length = a → a + U.length = m → m + V.length = b → 0 < U.length → 0 < V.length →
    (A ++ (U ++ (V ++ B))).length = n → n ≤ 4096 → (∀ x ∈ U, p x) → (∀ x ∈ V, p x) → SortedL (ltOf cmp) U → SortedL (ltOf cmp) V →
    AC Try.prog 94 [.own 1000 n, .d (.sc (.int .i64 ((a : Nat) : Int))), .d (.sc (.int .i64 ((m : Nat) : Int))), .d (.sc (.int .i64 ((b : Nat) : Int))), .fn g [.ptr 1100 0]] (H3 [.own 1101 m0] re rd (A ++ (U ++ (V ++ B)))) [1000, 1100, 1101]
      (fun r h' => r = .tup [] ∧ SubH (H3 [.own 1101 m0] re rd (A ++ (isL (ltOf cmp) (U ++ V) ++ B))) h'))
    (hk : b ≤ a + k + 1) (hI : SymI (ltOf cmp) a m (mid + m) s0 r0 U V s s) (hs4 : a ≤ s ∧ s ≤ m ∧ s ≤ mid ∧ mid + m ≤ b + s) (hq1 : s < m → s < mid → s < r0) (hq2 : a < s → mid + m < b + s → s0 < s) (hma : a < mid) (hmb : mid < b) :
    ∃ (e : Nat) (Z1 Z2 : List Nat), e + s = mid + m ∧ Z1.length = n ∧ Z2.length = n ∧ (A ++ (isL (ltOf cmp) (U ++ V) ++ B)).length = n ∧
      (s < m → s < mid → AC Try.prog 105 [.own 1000 n, .d (.sc (.int .i64 ((s : Nat) : Int))), .d (.sc (.int .i64 ((m : Nat) : Int))), .d (.sc (.int .i64 ((e : Nat) : Int))), .fn g [.ptr 1100 0]] (H3 [.own 1101 m0] re rd (A ++ (U ++ (V ++ B)))) [1000, 1100, 1101] (fun r h' => r = .tup [] ∧ SubH (H3 [.own 1101 m0] re rd Z1) h')) ∧ (¬ (s < m ∧ s < mid) → A ++ (U ++ (V ++ B)) = Z1) ∧
      (a < s → s < mid → AC Try.prog 94 [.own 1000 n, .d (.sc (.int .i64 ((a : Nat) : Int))), .d (.sc (.int .i64 ((s : Nat) : Int))), .d (.sc (.int .i64 ((mid : Nat) : Int))), .fn g [.ptr 1100 0]] (H3 [.own 1101 m0] re rd Z1) [1000, 1100, 1101] (fun r h' => r = .tup [] ∧ SubH (H3 [.own 1101 m0] re rd Z2) h')) ∧ (¬ (a < s ∧ s < mid) → Z1 = Z2) ∧
      (s < m → e < b → AC Try.prog 94 [.own 1000 n, .d (.sc (.int .i64 ((mid : Nat) : Int))), .d (.sc (.int .i64 ((e : Nat) : Int))), .d (.sc (.int .i64 ((b : Nat) : Int))), .fn g [.ptr 1100 0]] (H3 [.own 1101 m0] re rd Z2) [1000, 1100, 1101] (fun r h' => r = .tup [] ∧ SubH (H3 [.own 1101 m0] re rd (A ++ (isL (ltOf cmp) (U ++ V) ++ B))) h')) ∧ (¬ (s < m ∧ e < b) → Z2 = A ++ (isL (ltOf cmp) (U ++ V) ++ B)) := by
  have hdone := hI.done hO hm hb hSU hSV hs4 hq1 hq2
  obtain ⟨e, he⟩ : ∃ e, e + s = mid + m := ⟨mid + m - s, by omega⟩
  obtain ⟨s1, s2, s3, s4⟩ := hs4
  have l1 : (U.take (s - a)).length + a = s := by rw [List.length_take]; omega
  have l2 : (U.drop (s - a)).length + s = m := by rw [List.length_drop]; omega
  have l3 : (V.take (mid - s)).length + s = mid := by rw [List.length_take]; omega
  have l4 : (V.drop (mid - s)).length + e = b := by rw [List.length_drop]; omega
  have lB : B.length + b = n := by
    simp only [List.length_append] at hn
    omega
  have eU : U = U.take (s - a) ++ U.drop (s - a) := (List.take_append_drop _ _).symm
  have eV : V = V.take (mid - s) ++ V.drop (mid - s) := (List.take_append_drop _ _).symm
  have sU1 := sorted_take hSU (s - a)
  have sU2 := sorted_drop hSU (s - a)
  have sV1 := sorted_take hSV (mid - s)
  have sV2 := sorted_drop hSV (mid - s)
  have pU1 : ∀ x ∈ U.take (s - a), p x := fun x hx => hpU x (List.mem_of_mem_take hx)
  have pU2 : ∀ x ∈ U.drop (s - a), p x := fun x hx => hpU x (List.mem_of_mem_drop hx)
  have pV1 : ∀ x ∈ V.take (mid - s), p x := fun x hx => hpV x (List.mem_of_mem_take hx)
  have pV2 : ∀ x ∈ V.drop (mid - s), p x := fun x hx => hpV x (List.mem_of_mem_drop hx)
  rw [hdone]
  clear hdone hI hq1 hq2 hm hb hn hpU hpV hSU hSV
  generalize U.take (s - a) = U1 at *
  generalize U.drop (s - a) = U2 at *
  generalize V.take (mid - s) = V1 at *
  generalize V.drop (mid - s) = V2 at *
  subst eU
  subst eV
  have hL1 : (isL (ltOf cmp) (U1 ++ V1)).length = U1.length + V1.length := by rw [(isL_perm _).length_eq, List.length_append]
  have hL2 : (isL (ltOf cmp) (U2 ++ V2)).length = U2.length + V2.length := by rw [(isL_perm _).length_eq, List.length_append]
  have eA0 : A ++ U1 ++ (U2 ++ (V1 ++ (V2 ++ B))) = A ++ (U1 ++ U2 ++ (V1 ++ V2 ++ B)) := by simp only [List.append_assoc]
  have eA1 : A ++ U1 ++ (V1 ++ (U2 ++ (V2 ++ B))) = A ++ (U1 ++ (V1 ++ (U2 ++ (V2 ++ B)))) := by simp only [List.append_assoc]
  have eA2 : A ++ isL (ltOf cmp) (U1 ++ V1) ++ (U2 ++ (V2 ++ B)) = A ++ (isL (ltOf cmp) (U1 ++ V1) ++ (U2 ++ (V2 ++ B))) := by simp only [List.append_assoc]
  have eA3 : A ++ isL (ltOf cmp) (U1 ++ V1) ++ (isL (ltOf cmp) (U2 ++ V2) ++ B) = A ++ (isL (ltOf cmp) (U1 ++ V1) ++ isL (ltOf cmp) (U2 ++ V2) ++ B) := by simp only [List.append_assoc]
  refine ⟨e, A ++ (U1 ++ (V1 ++ (U2 ++ (V2 ++ B)))), A ++ (isL (ltOf cmp) (U1 ++ V1) ++ (U2 ++ (V2 ++ B))), he, by simp only [List.length_append]; omega, by simp only [List.length_append, hL1]; omega, by simp only [List.length_append, hL1, hL2]; omega, fun h1 h2 => ?_, fun hno => ?_, fun h1 h2 => ?_, fun hno => ?_, fun h1 h2 => ?_, fun hno => ?_⟩
  · have c := rotN_ac (g := g) (re := re) (rd := rd) n s m e m0 (A ++ U1) U2 V1 (V2 ++ B) (by rw [List.length_append]; omega) (by omega) (by omega) (by omega) (by omega) (by simp only [List.length_append]; omega) hle
    rw [eA0, eA1] at c
    exact c
  · by_cases hh : s < m
    · have : V1 = [] := List.eq_nil_of_length_eq_zero (by omega)
      subst this
      simp only [List.append_assoc, List.nil_append]
    · have : U2 = [] := List.eq_nil_of_length_eq_zero (by omega)
      subst this
      simp only [List.append_assoc, List.nil_append]
  · exact ih n a s mid A U1 V1 (U2 ++ (V2 ++ B)) (by omega) ha (by omega) (by omega) (by omega) (by omega) (by simp only [List.length_append]; omega) hle pU1 pV1 sU1 sV1
  · by_cases hh : a < s
    · have : V1 = [] := List.eq_nil_of_length_eq_zero (by omega)
      subst this
      rw [isL_nilr sU1, List.nil_append]
    · have : U1 = [] := List.eq_nil_of_length_eq_zero (by omega)
      subst this
      rw [isL_nill sV1, List.nil_append]
  · have c := ih n mid e b (A ++ isL (ltOf cmp) (U1 ++ V1)) U2 V2 B (by omega) (by rw [List.length_append, hL1]; omega) (by omega) (by omega) (by omega) (by omega) (by simp only [List.length_append, hL1]; omega) hle pU2 pV2 sU2 sV2
    rw [eA2, eA3] at c
    exact c
  · by_cases hh : s < m
    · have : V2 = [] := List.eq_nil_of_length_eq_zero (by omega)
      subst this
      rw [isL_nilr sU2]
      simp only [List.append_assoc, List.nil_append]
    · have : U2 = [] := List.eq_nil_of_length_eq_zero (by omega)
      subst this
      rw [isL_nill sV2]
      simp only [List.append_assoc, List.nil_append]
end
end Go.Proofs.Ytldfncafkdmoiaa
namespace Go.Proofs.Ytldfncafkdmoiaa
open Go.SL
/-! ### symMerge: the middle is on the left -/
section
variable {g : FuncId} {cmp : Nat → Nat → Int} {re : Nat} {rd : List (List D)}
set_option maxRecDepth 10000 in
set_option maxHeartbeats 16000000 in
theorem symG1 (m0 : Nat) (p : Nat → Prop) (hC : ∀ x y, p x → p y → cbN g cmp m0 re rd x y) (hO : Sort.SWO (ltOf cmp)) (n a m b : Nat) (A U V B : List Nat) (ha : A.length = a) (hm : a + U.length = m) (hb : m + V.length = b) (hU0 : 0 < U.length) (hV0 : 0 < V.length) (hn : (A ++ (U ++ (V ++ B))).length = n) (hle : n ≤ 4096) (hpU : ∀ x ∈ U, p x) (hpV : ∀ x ∈ V, p x) (hSU : SortedL (ltOf cmp) U) (hSV : SortedL (ltOf cmp) V) (k : Nat) (ih : ∀ (n a m b : Nat) (A U V B : List Nat), U.length + V.length ≤ k → A.length = a → a + U.length = m → m + V.length = b → 0 < U.length → 0 < V.length →
    (A ++ (U ++ (V ++ B))).length = n → n ≤ 4096 → (∀ x ∈ U, p x) → (∀ x ∈ V, p x) → SortedL (ltOf cmp) U → SortedL (ltOf cmp) V →
    AC Try.prog 94 [.own 1000 n, .d (.sc (.int .i64 ((a : Nat) : Int))), .d (.sc (.int .i64 ((m : Nat) : Int))), .d (.sc (.int .i64 ((b : Nat) : Int))), .fn g [.ptr 1100 0]] (H3 [.own 1101 m0] re rd (A ++ (U ++ (V ++ B)))) [1000, 1100, 1101]
      (fun r h' => r = .tup [] ∧ SubH (H3 [.own 1101 m0] re rd (A ++ (isL (ltOf cmp) (U ++ V) ++ B))) h')) (hk : U.length + V.length ≤ k + 1) (h1 : U.length ≠ 1) (h2 : V.length ≠ 1) (h4 : (a + b) / 2 < m) :
    AC Try.prog 94 [.own 1000 n, .d (.sc (.int .i64 ((a : Nat) : Int))), .d (.sc (.int .i64 ((m : Nat) : Int))), .d (.sc (.int .i64 ((b : Nat) : Int))), .fn g [.ptr 1100 0]] (H3 [.own 1101 m0] re rd (A ++ (U ++ (V ++ B)))) [1000, 1100, 1101]
      (fun r h' => r = .tup [] ∧ SubH (H3 [.own 1101 m0] re rd (A ++ (isL (ltOf cmp) (U ++ V) ++ B))) h') := by
  have hlen : A.length + U.length + V.length + B.length = n := by rw [← hn]; simp only [List.length_append]; omega
  unfold cbN at hC
  unfold H3 at *
  have g0 : eqb (((m : Nat) : Int) - ((a : Nat) : Int)) 1 = false := by rw [eqb_f]; omega
  have g3 : eqb (((b : Nat) : Int) - ((m : Nat) : Int)) 1 = false := by rw [eqb_f]; omega
  have hwm := half_w a b
  obtain ⟨mid, hmid⟩ : ∃ mid, mid = (a + b) / 2 := ⟨_, rfl⟩
  rw [← hmid] at hwm
  have fN : AV.d (.sc (.int .i64 (wrp .i64 (((mid : Nat) : Int) + ((m : Nat) : Int))))) = AV.d (.sc (.int .i64 ((mid + m : Nat) : Int))) := by rw [wrp_fit (by omega)]; congr 3; try omega
  have fP : AV.d (.sc (.int .i64 (wrp .i64 (((mid + m : Nat) : Int) - 1)))) = AV.d (.sc (.int .i64 ((mid + m - 1 : Nat) : Int))) := by rw [wrp_fit (by omega)]; congr 3; try omega
  have zU := fun j x (h : U[j]? = some x) => at_left (A := A) (W := V ++ B) h
  have zV := fun j y (h : V[j]? = some y) => at_right (A := A) (U := U) (W := B) h
  rw [ha] at zU zV
  rw [hm] at zV
  have hn0 := hn
  obtain ⟨Z0, hZ0⟩ : ∃ Z0, Z0 = A ++ (U ++ (V ++ B)) := ⟨_, rfl⟩
  rw [← hZ0] at zU zV hn ⊢
  rw [← hmid] at h4
  have g4 : ltb ((mid : Nat) : Int) ((m : Nat) : Int) = true := by rw [ltb_t]; omega
  have fS : AV.d (.sc (.int .i64 (wrp .i64 (((mid + m : Nat) : Int) - ((b : Nat) : Int))))) = AV.d (.sc (.int .i64 ((mid + m - b : Nat) : Int))) := by rw [wrp_fit (by omega)]; congr 3; try omega
  refine AC_enter Try.func94 rfl Try.ntmps94 (rv := []) rfl rfl (by simp) (fun w X G => ?_)
  repeat' (first | ((with_reducible refine gA ?_); (first | refine AW_seq ?_ | refine AW_region ?_ | (refine AW_condY rfl ?_ ?_; assumption) | (refine AW_condN rfl ?_ ?_; assumption) | refine AW_block ?_ | refine AW_skip ?_)) | (((with_reducible refine gS ?_); apply Es_q); rfl; rfl; (first | refine LStep_fitQ (T := Try.tab) rfl rfl fN | refine LStep_fitQ (T := Try.tab) rfl rfl fP | refine LStep_fitQ (T := Try.tab) rfl rfl fS | (refine LStep_conv (T := Try.tab) rfl rfl rfl rfl rfl ?_; (first | (refine u64_fit ?_; omega) | (refine IntWalk.i64_in _ ?_; omega))))) | ((with_reducible refine gS ?_); refine Es_s (T := Try.tab) rfl rfl rfl rfl ?_) | (((with_reducible refine gS ?_); apply Es_q); rfl; rfl; (refine LStep_shr rfl rfl rfl ?_ hwm rfl; omega)) | (((with_reducible refine gS ?_); apply Es_q); rfl; rfl; (first | (refine LStep_add rfl rfl rfl rfl ?_; (refine IntWalk.i64_in _ ?_; first | omega | (simp only [cmps] at *; omega))) | (refine LStep_sub rfl rfl rfl rfl ?_; (refine IntWalk.i64_in _ ?_; first | omega | (simp only [cmps] at *; omega))))) | (with_reducible refine Es_nil ?_) | (with_reducible refine then_n ?_))
  refine AW_forE (S := Nat × Nat) (fun z => SymI (ltOf cmp) a m (mid + m) (mid + m - b) (mid) U V z.1 z.2) (fun z => [(20, .d (.sc (.int .i64 ((z.1 : Nat) : Int)))), (21, .d (.sc (.int .i64 ((z.2 : Nat) : Int))))]) (fun _ => []) (fun z => z.2 - z.1) (mid + m - b, mid) ⟨by dsimp only; omega, by dsimp only; omega, by dsimp only; omega, .inl rfl, .inl rfl⟩ (by (repeat' (first | exact trivial | exact rfl | (refine ⟨Or.inl rfl, ?_⟩) | (refine ⟨Or.inr rfl, ?_⟩) | (refine ⟨Or.inr trivial, ?_⟩) | (refine ⟨rfl, ?_⟩) | (refine ⟨?_, ?_⟩)))) (by (repeat' (first | exact trivial | exact rfl | (refine ⟨Or.inl rfl, ?_⟩) | (refine ⟨Or.inr rfl, ?_⟩) | (refine ⟨Or.inr trivial, ?_⟩) | (refine ⟨rfl, ?_⟩) | (refine ⟨?_, ?_⟩)))) ?_
  rintro ⟨s, q⟩ hI
  dsimp only at hI
  have q1 := hI.le1
  have q2 := hI.le2
  have q3 := hI.le3
  by_cases hlt : s < q
  · obtain ⟨c0, hc⟩ : ∃ c0, c0 = (s + q) / 2 := ⟨_, rfl⟩
    have hw := half_w s q
    rw [← hc] at hw
    obtain ⟨x, hx, _⟩ := drop_at (l := U) (k := c0 - a) (by omega)
    obtain ⟨y, hy, _⟩ := drop_at (l := V) (k := mid + m - 1 - c0 - m) (by omega)
    have zx := zU _ x hx
    have zy := zV _ y hy
    rw [show a + (c0 - a) = c0 by omega] at zx
    rw [show m + (mid + m - 1 - c0 - m) = mid + m - 1 - c0 by omega] at zy
    have g1 : ltb ((s : Nat) : Int) ((q : Nat) : Int) = true := by rw [ltb_t]; omega
    have c := hC y x (hpV y (List.mem_of_getElem? hy)) (hpU x (List.mem_of_getElem? hx))
    have hup := hI.up (c := c0) (by omega) (by omega) hx hy
    have hdn := hI.dn (c := c0) (by omega) (by omega) hx hy
    have hlt0 := ltOf_ltb cmp y x
    rw [hlt0] at hup hdn
    have f1 : AV.d (.sc (.int .i64 (wrp .i64 (((c0 : Nat) : Int) + 1)))) = AV.d (.sc (.int .i64 ((c0 + 1 : Nat) : Int))) := by rw [wrp_fit (by omega)]; congr 3; try omega
    have f2 : AV.d (.sc (.int .i64 (wrp .i64 (((mid + m - 1 : Nat) : Int) - ((c0 : Nat) : Int))))) = AV.d (.sc (.int .i64 ((mid + m - 1 - c0 : Nat) : Int))) := by rw [wrp_fit (by omega)]; congr 3; try omega
    generalize cmp y x = cv at *
    cases hcv : ltb cv 0 with
    | true =>
      have gN : (!(ltb cv 0)) = false := by rw [hcv]; rfl
      repeat' (first | ((with_reducible refine gA ?_); (first | refine AW_seq ?_ | refine AW_region ?_ | refine AW_regionD Try.mixed ?_ | (refine AW_condY rfl ?_ ?_; assumption) | (refine AW_condN rfl ?_ ?_; assumption) | refine AW_block ?_ | refine AW_skip ?_)) | ((first | ((with_reducible refine gS ?_); apply Es_q) | ((with_reducible refine gD ?_); apply Ed_q)); rfl; rfl; (first | refine LStep_fitQ (T := Try.tab) rfl rfl f2 | (refine LStep_conv (T := Try.tab) rfl rfl rfl rfl rfl ?_; (first | (refine u64_fit ?_; omega) | (refine IntWalk.i64_in _ ?_; omega))))) | (first | ((with_reducible refine gS ?_); refine Es_s (T := Try.tab) rfl rfl rfl rfl ?_) | ((with_reducible refine gD ?_); refine Ed_s (T := Try.tab) rfl rfl rfl rfl ?_)) | ((first | ((with_reducible refine gS ?_); apply Es_q) | ((with_reducible refine gD ?_); apply Ed_q)); rfl; rfl; (first | (refine LStep_shr rfl rfl rfl ?_ hw rfl; omega) | (refine LStep_indexOwnM (T := Try.tab) rfl rfl rfl rfl rfl rfl rfl ?_ ?_; (simp only [List.length_set, List.length_map]; omega); (simp only [List.length_set, List.length_map]; omega)) | (refine LStep_loadEM (T := Try.tab) rfl rfl rfl rfl rfl ?_ zy rfl; (rw [List.length_map]; omega)) | (refine LStep_loadEM (T := Try.tab) rfl rfl rfl rfl rfl ?_ zx rfl; (rw [List.length_map]; omega)) | refine LStep_callB c rfl rfl ⟨rfl, rfl, trivial⟩ rfl rfl)) | (((with_reducible refine gS ?_); apply Es_q); rfl; rfl; (refine LStep_add rfl rfl rfl rfl ?_; (refine IntWalk.i64_in _ ?_; first | omega | (simp only [cmps] at *; omega)))) | (with_reducible refine Es_nil ?_) | ((with_reducible refine Ed_nil ?_ ?_); kernel_rfl) | (with_reducible refine then_n ?_) | (with_reducible refine block_n ?_))
      all_goals first
        | (refine ⟨(s, c0), hdn hcv, ?_, by (repeat' (first | exact trivial | exact rfl | (refine ⟨Or.inl rfl, ?_⟩) | (refine ⟨Or.inr rfl, ?_⟩) | (refine ⟨Or.inr trivial, ?_⟩) | (refine ⟨rfl, ?_⟩) | (refine ⟨?_, ?_⟩))), by (repeat' (first | exact trivial | exact rfl | (refine ⟨Or.inl rfl, ?_⟩) | (refine ⟨Or.inr rfl, ?_⟩) | (refine ⟨Or.inr trivial, ?_⟩) | (refine ⟨rfl, ?_⟩) | (refine ⟨?_, ?_⟩))), by (repeat' (first | exact trivial | exact rfl | (refine ⟨Or.inl rfl, ?_⟩) | (refine ⟨Or.inr rfl, ?_⟩) | (refine ⟨Or.inr trivial, ?_⟩) | (refine ⟨rfl, ?_⟩) | (refine ⟨?_, ?_⟩))), by (repeat' (first | exact trivial | exact rfl | (refine ⟨Or.inl rfl, ?_⟩) | (refine ⟨Or.inr rfl, ?_⟩) | (refine ⟨Or.inr trivial, ?_⟩) | (refine ⟨rfl, ?_⟩) | (refine ⟨?_, ?_⟩)))⟩ <;> dsimp only <;> omega)
        | trace_state
    | false =>
      have gN : (!(ltb cv 0)) = true := by rw [hcv]; rfl
      repeat' (first | ((with_reducible refine gA ?_); (first | refine AW_seq ?_ | refine AW_region ?_ | refine AW_regionD Try.mixed ?_ | (refine AW_condY rfl ?_ ?_; assumption) | refine AW_block ?_ | refine AW_skip ?_)) | ((first | ((with_reducible refine gS ?_); apply Es_q) | ((with_reducible refine gD ?_); apply Ed_q)); rfl; rfl; (first | refine LStep_fitQ (T := Try.tab) rfl rfl f1 | refine LStep_fitQ (T := Try.tab) rfl rfl f2 | (refine LStep_conv (T := Try.tab) rfl rfl rfl rfl rfl ?_; (first | (refine u64_fit ?_; omega) | (refine IntWalk.i64_in _ ?_; omega))))) | (first | ((with_reducible refine gS ?_); refine Es_s (T := Try.tab) rfl rfl rfl rfl ?_) | ((with_reducible refine gD ?_); refine Ed_s (T := Try.tab) rfl rfl rfl rfl ?_)) | ((first | ((with_reducible refine gS ?_); apply Es_q) | ((with_reducible refine gD ?_); apply Ed_q)); rfl; rfl; (first | (refine LStep_shr rfl rfl rfl ?_ hw rfl; omega) | (refine LStep_indexOwnM (T := Try.tab) rfl rfl rfl rfl rfl rfl rfl ?_ ?_; (simp only [List.length_set, List.length_map]; omega); (simp only [List.length_set, List.length_map]; omega)) | (refine LStep_loadEM (T := Try.tab) rfl rfl rfl rfl rfl ?_ zy rfl; (rw [List.length_map]; omega)) | (refine LStep_loadEM (T := Try.tab) rfl rfl rfl rfl rfl ?_ zx rfl; (rw [List.length_map]; omega)) | refine LStep_callB c rfl rfl ⟨rfl, rfl, trivial⟩ rfl rfl)) | (((with_reducible refine gS ?_); apply Es_q); rfl; rfl; (refine LStep_add rfl rfl rfl rfl ?_; (refine IntWalk.i64_in _ ?_; first | omega | (simp only [cmps] at *; omega)))) | (with_reducible refine Es_nil ?_) | ((with_reducible refine Ed_nil ?_ ?_); kernel_rfl) | (with_reducible refine then_n ?_) | (with_reducible refine block_n ?_))
      all_goals first
        | (refine ⟨(c0 + 1, q), hup hcv, ?_, by (repeat' (first | exact trivial | exact rfl | (refine ⟨Or.inl rfl, ?_⟩) | (refine ⟨Or.inr rfl, ?_⟩) | (refine ⟨Or.inr trivial, ?_⟩) | (refine ⟨rfl, ?_⟩) | (refine ⟨?_, ?_⟩))), by (repeat' (first | exact trivial | exact rfl | (refine ⟨Or.inl rfl, ?_⟩) | (refine ⟨Or.inr rfl, ?_⟩) | (refine ⟨Or.inr trivial, ?_⟩) | (refine ⟨rfl, ?_⟩) | (refine ⟨?_, ?_⟩))), by (repeat' (first | exact trivial | exact rfl | (refine ⟨Or.inl rfl, ?_⟩) | (refine ⟨Or.inr rfl, ?_⟩) | (refine ⟨Or.inr trivial, ?_⟩) | (refine ⟨rfl, ?_⟩) | (refine ⟨?_, ?_⟩))), by (repeat' (first | exact trivial | exact rfl | (refine ⟨Or.inl rfl, ?_⟩) | (refine ⟨Or.inr rfl, ?_⟩) | (refine ⟨Or.inr trivial, ?_⟩) | (refine ⟨rfl, ?_⟩) | (refine ⟨?_, ?_⟩)))⟩ <;> dsimp only <;> omega)
        | trace_state
  have : s = q := by omega
  subst this
  have g1 : ltb ((s : Nat) : Int) ((s : Nat) : Int) = false := by rw [ltb_f]; omega
  have hs4 : a ≤ s ∧ s ≤ m ∧ s ≤ mid ∧ mid + m ≤ b + s := by omega
  have hE := symEnd (g := g) (re := re) (rd := rd) m0 p hO n a m b mid s (mid + m - b) mid A U V B ha hm hb hn0 hle hpU hpV hSU hSV k ih (by omega) hI hs4 (by omega) (by omega) (by omega) (by omega)
  obtain ⟨s1, s2, s3, s4⟩ := hs4
  have hx1 : 2 * mid ≤ a + b ∧ a + b ≤ 2 * mid + 1 := by omega
  have hx2 : a + 2 ≤ m ∧ m + 2 ≤ b := by omega
  obtain ⟨e, Z1, Z2, he, n1, n2, n3, cR, e0, cM1, e1, cM2, e2⟩ := hE
  have hbn : b ≤ n := by omega
  rw [← hZ0] at cR e0
  generalize A ++ (isL (ltOf cmp) (U ++ V) ++ B) = Z3 at *
  unfold H3 at cR cM1 cM2
  clear hZ0 hn0 zU zV hI ih hk hlen hU0 hV0 hpU hpV hSU hSV hC q1 q2 q3 fN fP fS hm hb h1 h2 hmid hwm hO ha
  have fE : AV.d (.sc (.int .i64 (wrp .i64 (((mid + m : Nat) : Int) - ((s : Nat) : Int))))) = AV.d (.sc (.int .i64 ((e : Nat) : Int))) := by rw [wrp_fit (by omega)]; congr 3; omega
  have y1 : (Z0.map nN).length = (Z1.map nN).length := by rw [List.length_map, List.length_map, hn, n1]
  have y2 : (Z1.map nN).length = (Z2.map nN).length := by rw [List.length_map, List.length_map, n1, n2]
  have y3 : (Z2.map nN).length = (Z3.map nN).length := by rw [List.length_map, List.length_map, n2, n3]
  by_cases hA : s < m
  · by_cases hB : s < mid
    · by_cases hCc : a < s
      · by_cases hD : e < b
        · have tA : ltb ((s : Nat) : Int) ((m : Nat) : Int) = true := by rw [ltb_t]; omega
          have tB : ltb ((m : Nat) : Int) ((e : Nat) : Int) = true := by rw [ltb_t]; omega
          have tC : ltb ((a : Nat) : Int) ((s : Nat) : Int) = true := by rw [ltb_t]; omega
          have tD : ltb ((s : Nat) : Int) ((mid : Nat) : Int) = true := by rw [ltb_t]; omega
          have tE : ltb ((mid : Nat) : Int) ((e : Nat) : Int) = true := by rw [ltb_t]; omega
          have tF : ltb ((e : Nat) : Int) ((b : Nat) : Int) = true := by rw [ltb_t]; omega
          have cR := cR (by omega) (by omega)
          have cM1 := cM1 (by omega) (by omega)
          have cM2 := cM2 (by omega) (by omega)
          repeat' (first | ((with_reducible refine gA ?_); (first | refine AW_seq ?_ | refine AW_region ?_ | (refine AW_condY rfl ?_ ?_; assumption) | (refine AW_condN rfl ?_ ?_; assumption) | refine AW_exit ?_)) | (((with_reducible refine gS ?_); apply Es_q); rfl; (first | rfl | (refine w_tt ?_; assumption)); refine LStep_fitQ (T := Try.tab) rfl rfl fE) | ((with_reducible refine gS ?_); refine Es_s (T := Try.tab) rfl rfl rfl rfl ?_) | (((with_reducible refine gS ?_); apply Es_xg); rfl; (first | rfl | (refine w_tt ?_; assumption)); (first | refine LStep_callHN [] [] cR rfl rfl ⟨rfl, rfl, rfl, trivial⟩ rfl ⟨y1, trivial, rfl, trivial⟩ rfl rfl | refine LStep_callHN [] [] cM1 rfl rfl ⟨rfl, rfl, rfl, trivial⟩ rfl ⟨y2, trivial, rfl, trivial⟩ rfl rfl | refine LStep_callHN [] [] cM2 rfl rfl ⟨rfl, rfl, rfl, trivial⟩ rfl ⟨y3, trivial, rfl, trivial⟩ rfl rfl); rfl) | (((with_reducible refine gS ?_); apply Es_q); rfl; (first | rfl | (refine w_tt ?_; assumption)); (first | refine LStep_simp (T := Try.tab) rfl rfl | (refine LStep_pickT rfl rfl ?_ rfl rfl; assumption))) | (with_reducible refine Es_nil ?_) | (with_reducible refine then_n ?_) | (with_reducible refine then_e ?_) | ((with_reducible refine block_e ?_ ?_); rfl) | ((with_reducible refine gR ?_); first | refine ret1 rfl ?_ | refine ret2 rfl rfl ?_ | refine ret0 ?_ | refine end1 rfl ?_ | refine end0 ?_))
          all_goals first
            | exact ⟨rfl, by (repeat' (first | exact trivial | exact rfl | (refine ⟨Or.inl rfl, ?_⟩) | (refine ⟨Or.inr rfl, ?_⟩) | (refine ⟨Or.inr trivial, ?_⟩) | (refine ⟨rfl, ?_⟩) | (refine ⟨?_, ?_⟩)))⟩
            | trace_state
        · have tA : ltb ((s : Nat) : Int) ((m : Nat) : Int) = true := by rw [ltb_t]; omega
          have tB : ltb ((m : Nat) : Int) ((e : Nat) : Int) = true := by rw [ltb_t]; omega
          have tC : ltb ((a : Nat) : Int) ((s : Nat) : Int) = true := by rw [ltb_t]; omega
          have tD : ltb ((s : Nat) : Int) ((mid : Nat) : Int) = true := by rw [ltb_t]; omega
          have tE : ltb ((mid : Nat) : Int) ((e : Nat) : Int) = true := by rw [ltb_t]; omega
          have tF : ltb ((e : Nat) : Int) ((b : Nat) : Int) = false := by rw [ltb_f]; omega
          have cR := cR (by omega) (by omega)
          have cM1 := cM1 (by omega) (by omega)
          obtain rfl := e2 (by omega)
          repeat' (first | ((with_reducible refine gA ?_); (first | refine AW_seq ?_ | refine AW_region ?_ | (refine AW_condY rfl ?_ ?_; assumption) | (refine AW_condN rfl ?_ ?_; assumption) | refine AW_skip ?_ | refine AW_exit ?_)) | (((with_reducible refine gS ?_); apply Es_q); rfl; (first | rfl | (refine w_tt ?_; assumption)); refine LStep_fitQ (T := Try.tab) rfl rfl fE) | ((with_reducible refine gS ?_); refine Es_s (T := Try.tab) rfl rfl rfl rfl ?_) | (((with_reducible refine gS ?_); apply Es_xg); rfl; (first | rfl | (refine w_tt ?_; assumption)); (first | refine LStep_callHN [] [] cR rfl rfl ⟨rfl, rfl, rfl, trivial⟩ rfl ⟨y1, trivial, rfl, trivial⟩ rfl rfl | refine LStep_callHN [] [] cM1 rfl rfl ⟨rfl, rfl, rfl, trivial⟩ rfl ⟨y2, trivial, rfl, trivial⟩ rfl rfl); rfl) | (((with_reducible refine gS ?_); apply Es_q); rfl; (first | rfl | (refine w_tt ?_; assumption)); (first | refine LStep_simp (T := Try.tab) rfl rfl | (refine LStep_pickT rfl rfl ?_ rfl rfl; assumption))) | (with_reducible refine Es_nil ?_) | (with_reducible refine then_n ?_) | (with_reducible refine then_e ?_) | ((with_reducible refine block_e ?_ ?_); rfl) | ((with_reducible refine gR ?_); first | refine ret1 rfl ?_ | refine ret2 rfl rfl ?_ | refine ret0 ?_ | refine end1 rfl ?_ | refine end0 ?_))
          all_goals first
            | exact ⟨rfl, by (repeat' (first | exact trivial | exact rfl | (refine ⟨Or.inl rfl, ?_⟩) | (refine ⟨Or.inr rfl, ?_⟩) | (refine ⟨Or.inr trivial, ?_⟩) | (refine ⟨rfl, ?_⟩) | (refine ⟨?_, ?_⟩)))⟩
            | trace_state
      · by_cases hD : e < b
        · omega
        · have tA : ltb ((s : Nat) : Int) ((m : Nat) : Int) = true := by rw [ltb_t]; omega
          have tB : ltb ((m : Nat) : Int) ((e : Nat) : Int) = true := by rw [ltb_t]; omega
          have tC : ltb ((a : Nat) : Int) ((s : Nat) : Int) = false := by rw [ltb_f]; omega
          have tE : ltb ((mid : Nat) : Int) ((e : Nat) : Int) = true := by rw [ltb_t]; omega
          have tF : ltb ((e : Nat) : Int) ((b : Nat) : Int) = false := by rw [ltb_f]; omega
          have cR := cR (by omega) (by omega)
          obtain rfl := e1 (by omega)
          obtain rfl := e2 (by omega)
          repeat' (first | ((with_reducible refine gA ?_); (first | refine AW_seq ?_ | refine AW_region ?_ | refine AW_condF rfl ?_ | (refine AW_condY rfl ?_ ?_; assumption) | (refine AW_condN rfl ?_ ?_; assumption) | refine AW_skip ?_ | refine AW_exit ?_)) | (((with_reducible refine gS ?_); apply Es_q); rfl; (first | rfl | (refine w_tt ?_; assumption)); refine LStep_fitQ (T := Try.tab) rfl rfl fE) | ((with_reducible refine gS ?_); refine Es_s (T := Try.tab) rfl rfl rfl rfl ?_) | (((with_reducible refine gS ?_); apply Es_xg); rfl; (first | rfl | (refine w_tt ?_; assumption)); refine LStep_callHN [] [] cR rfl rfl ⟨rfl, rfl, rfl, trivial⟩ rfl ⟨y1, trivial, rfl, trivial⟩ rfl rfl; rfl) | (((with_reducible refine gS ?_); apply Es_q); rfl; (first | rfl | (refine w_tt ?_; assumption)); (first | refine LStep_simp (T := Try.tab) rfl rfl | (refine LStep_pickT rfl rfl ?_ rfl rfl; assumption) | (refine LStep_pickF rfl rfl ?_ rfl rfl; assumption))) | (refine Es_skip rfl ?_ rfl ?_; (first | rfl | (refine w_tf ?_; assumption) | (refine w_ft ?_; assumption))) | (with_reducible refine Es_nil ?_) | (with_reducible refine then_n ?_) | (with_reducible refine then_e ?_) | ((with_reducible refine block_e ?_ ?_); rfl) | ((with_reducible refine gR ?_); first | refine ret1 rfl ?_ | refine ret2 rfl rfl ?_ | refine ret0 ?_ | refine end1 rfl ?_ | refine end0 ?_))
          all_goals first
            | exact ⟨rfl, by (repeat' (first | exact trivial | exact rfl | (refine ⟨Or.inl rfl, ?_⟩) | (refine ⟨Or.inr rfl, ?_⟩) | (refine ⟨Or.inr trivial, ?_⟩) | (refine ⟨rfl, ?_⟩) | (refine ⟨?_, ?_⟩)))⟩
            | trace_state
    · by_cases hCc : a < s
      · by_cases hD : e < b
        · have tA : ltb ((s : Nat) : Int) ((m : Nat) : Int) = true := by rw [ltb_t]; omega
          have tB : ltb ((m : Nat) : Int) ((e : Nat) : Int) = false := by rw [ltb_f]; omega
          have tC : ltb ((a : Nat) : Int) ((s : Nat) : Int) = true := by rw [ltb_t]; omega
          have tD : ltb ((s : Nat) : Int) ((mid : Nat) : Int) = false := by rw [ltb_f]; omega
          have tE : ltb ((mid : Nat) : Int) ((e : Nat) : Int) = true := by rw [ltb_t]; omega
          have tF : ltb ((e : Nat) : Int) ((b : Nat) : Int) = true := by rw [ltb_t]; omega
          obtain rfl := e0 (by omega)
          obtain rfl := e1 (by omega)
          have cM2 := cM2 (by omega) (by omega)
          repeat' (first | ((with_reducible refine gA ?_); (first | refine AW_seq ?_ | refine AW_region ?_ | (refine AW_condY rfl ?_ ?_; assumption) | (refine AW_condN rfl ?_ ?_; assumption) | refine AW_skip ?_ | refine AW_exit ?_)) | (((with_reducible refine gS ?_); apply Es_q); rfl; (first | rfl | (refine w_tt ?_; assumption)); refine LStep_fitQ (T := Try.tab) rfl rfl fE) | ((with_reducible refine gS ?_); refine Es_s (T := Try.tab) rfl rfl rfl rfl ?_) | (((with_reducible refine gS ?_); apply Es_xg); rfl; (first | rfl | (refine w_tt ?_; assumption)); refine LStep_callHN [] [] cM2 rfl rfl ⟨rfl, rfl, rfl, trivial⟩ rfl ⟨y3, trivial, rfl, trivial⟩ rfl rfl; rfl) | (((with_reducible refine gS ?_); apply Es_q); rfl; (first | rfl | (refine w_tt ?_; assumption)); (first | refine LStep_simp (T := Try.tab) rfl rfl | (refine LStep_pickT rfl rfl ?_ rfl rfl; assumption))) | (with_reducible refine Es_nil ?_) | (with_reducible refine then_n ?_) | (with_reducible refine then_e ?_) | ((with_reducible refine block_e ?_ ?_); rfl) | ((with_reducible refine gR ?_); first | refine ret1 rfl ?_ | refine ret2 rfl rfl ?_ | refine ret0 ?_ | refine end1 rfl ?_ | refine end0 ?_))
          all_goals first
            | exact ⟨rfl, by (repeat' (first | exact trivial | exact rfl | (refine ⟨Or.inl rfl, ?_⟩) | (refine ⟨Or.inr rfl, ?_⟩) | (refine ⟨Or.inr trivial, ?_⟩) | (refine ⟨rfl, ?_⟩) | (refine ⟨?_, ?_⟩)))⟩
            | trace_state
        · omega
      · omega
  · omega
end
end Go.Proofs.Ytldfncafkdmoiaa
namespace Go.Proofs.Ytldfncafkdmoiaa
open Go.SL
/-! ### symMerge: the middle is on the right -/
section
variable {g : FuncId} {cmp : Nat → Nat → Int} {re : Nat} {rd : List (List D)}
set_option maxRecDepth 10000 in
set_option maxHeartbeats 16000000 in
theorem symG2 (m0 : Nat) (p : Nat → Prop) (hC : ∀ x y, p x → p y → cbN g cmp m0 re rd x y) (hO : Sort.SWO (ltOf cmp)) (n a m b : Nat) (A U V B : List Nat) (ha : A.length = a) (hm : a + U.length = m) (hb : m + V.length = b) (hU0 : 0 < U.length) (hV0 : 0 < V.length) (hn : (A ++ (U ++ (V ++ B))).length = n) (hle : n ≤ 4096) (hpU : ∀ x ∈ U, p x) (hpV : ∀ x ∈ V, p x) (hSU : SortedL (ltOf cmp) U) (hSV : SortedL (ltOf cmp) V) (k : Nat) (ih : ∀ (n a m b : Nat) (A U V B : List Nat), U.length + V.length ≤ k → A.length = a → a + U.length = m → m + V.length = b → 0 < U.length → 0 < V.length →
    (A ++ (U ++ (V ++ B))).length = n → n ≤ 4096 → (∀ x ∈ U, p x) → (∀ x ∈ V, p x) → SortedL (ltOf cmp) U → SortedL (ltOf cmp) V →
    AC Try.prog 94 [.own 1000 n, .d (.sc (.int .i64 ((a : Nat) : Int))), .d (.sc (.int .i64 ((m : Nat) : Int))), .d (.sc (.int .i64 ((b : Nat) : Int))), .fn g [.ptr 1100 0]] (H3 [.own 1101 m0] re rd (A ++ (U ++ (V ++ B)))) [1000, 1100, 1101]
      (fun r h' => r = .tup [] ∧ SubH (H3 [.own 1101 m0] re rd (A ++ (isL (ltOf cmp) (U ++ V) ++ B))) h')) (hk : U.length + V.length ≤ k + 1) (h1 : U.length ≠ 1) (h2 : V.length ≠ 1) (h4 : ¬ (a + b) / 2 < m) :
    AC Try.prog 94 [.own 1000 n, .d (.sc (.int .i64 ((a : Nat) : Int))), .d (.sc (.int .i64 ((m : Nat) : Int))), .d (.sc (.int .i64 ((b : Nat) : Int))), .fn g [.ptr 1100 0]] (H3 [.own 1101 m0] re rd (A ++ (U ++ (V ++ B)))) [1000, 1100, 1101]
      (fun r h' => r = .tup [] ∧ SubH (H3 [.own 1101 m0] re rd (A ++ (isL (ltOf cmp) (U ++ V) ++ B))) h') := by
  have hlen : A.length + U.length + V.length + B.length = n := by rw [← hn]; simp only [List.length_append]; omega
  unfold cbN at hC
  unfold H3 at *
  have g0 : eqb (((m : Nat) : Int) - ((a : Nat) : Int)) 1 = false := by rw [eqb_f]; omega
  have g3 : eqb (((b : Nat) : Int) - ((m : Nat) : Int)) 1 = false := by rw [eqb_f]; omega
  have hwm := half_w a b
  obtain ⟨mid, hmid⟩ : ∃ mid, mid = (a + b) / 2 := ⟨_, rfl⟩
  rw [← hmid] at hwm
  have fN : AV.d (.sc (.int .i64 (wrp .i64 (((mid : Nat) : Int) + ((m : Nat) : Int))))) = AV.d (.sc (.int .i64 ((mid + m : Nat) : Int))) := by rw [wrp_fit (by omega)]; congr 3; try omega
  have fP : AV.d (.sc (.int .i64 (wrp .i64 (((mid + m : Nat) : Int) - 1)))) = AV.d (.sc (.int .i64 ((mid + m - 1 : Nat) : Int))) := by rw [wrp_fit (by omega)]; congr 3; try omega
  have zU := fun j x (h : U[j]? = some x) => at_left (A := A) (W := V ++ B) h
  have zV := fun j y (h : V[j]? = some y) => at_right (A := A) (U := U) (W := B) h
  rw [ha] at zU zV
  rw [hm] at zV
  have hn0 := hn
  obtain ⟨Z0, hZ0⟩ : ∃ Z0, Z0 = A ++ (U ++ (V ++ B)) := ⟨_, rfl⟩
  rw [← hZ0] at zU zV hn ⊢
  rw [← hmid] at h4
  have g4 : ltb ((mid : Nat) : Int) ((m : Nat) : Int) = false := by rw [ltb_f]; omega
  refine AC_enter Try.func94 rfl Try.ntmps94 (rv := []) rfl rfl (by simp) (fun w X G => ?_)
  repeat' (first | ((with_reducible refine gA ?_); (first | refine AW_seq ?_ | refine AW_region ?_ | (refine AW_condN rfl ?_ ?_; assumption) | refine AW_block ?_ | refine AW_skip ?_)) | (((with_reducible refine gS ?_); apply Es_q); rfl; rfl; (first | refine LStep_fitQ (T := Try.tab) rfl rfl fN | refine LStep_fitQ (T := Try.tab) rfl rfl fP | (refine LStep_conv (T := Try.tab) rfl rfl rfl rfl rfl ?_; (first | (refine u64_fit ?_; omega) | (refine IntWalk.i64_in _ ?_; omega))))) | ((with_reducible refine gS ?_); refine Es_s (T := Try.tab) rfl rfl rfl rfl ?_) | (((with_reducible refine gS ?_); apply Es_q); rfl; rfl; (refine LStep_shr rfl rfl rfl ?_ hwm rfl; omega)) | (((with_reducible refine gS ?_); apply Es_q); rfl; rfl; (first | (refine LStep_add rfl rfl rfl rfl ?_; (refine IntWalk.i64_in _ ?_; first | omega | (simp only [cmps] at *; omega))) | (refine LStep_sub rfl rfl rfl rfl ?_; (refine IntWalk.i64_in _ ?_; first | omega | (simp only [cmps] at *; omega))))) | (with_reducible refine Es_nil ?_) | (with_reducible refine then_n ?_))
  refine AW_forE (S := Nat × Nat) (fun z => SymI (ltOf cmp) a m (mid + m) (a) (m) U V z.1 z.2) (fun z => [(20, .d (.sc (.int .i64 ((z.1 : Nat) : Int)))), (21, .d (.sc (.int .i64 ((z.2 : Nat) : Int))))]) (fun _ => []) (fun z => z.2 - z.1) (a, m) ⟨by dsimp only; omega, by dsimp only; omega, by dsimp only; omega, .inl rfl, .inl rfl⟩ (by (repeat' (first | exact trivial | exact rfl | (refine ⟨Or.inl rfl, ?_⟩) | (refine ⟨Or.inr rfl, ?_⟩) | (refine ⟨Or.inr trivial, ?_⟩) | (refine ⟨rfl, ?_⟩) | (refine ⟨?_, ?_⟩)))) (by (repeat' (first | exact trivial | exact rfl | (refine ⟨Or.inl rfl, ?_⟩) | (refine ⟨Or.inr rfl, ?_⟩) | (refine ⟨Or.inr trivial, ?_⟩) | (refine ⟨rfl, ?_⟩) | (refine ⟨?_, ?_⟩)))) ?_
  rintro ⟨s, q⟩ hI
  dsimp only at hI
  have q1 := hI.le1
  have q2 := hI.le2
  have q3 := hI.le3
  by_cases hlt : s < q
  · obtain ⟨c0, hc⟩ : ∃ c0, c0 = (s + q) / 2 := ⟨_, rfl⟩
    have hw := half_w s q
    rw [← hc] at hw
    obtain ⟨x, hx, _⟩ := drop_at (l := U) (k := c0 - a) (by omega)
    obtain ⟨y, hy, _⟩ := drop_at (l := V) (k := mid + m - 1 - c0 - m) (by omega)
    have zx := zU _ x hx
    have zy := zV _ y hy
    rw [show a + (c0 - a) = c0 by omega] at zx
    rw [show m + (mid + m - 1 - c0 - m) = mid + m - 1 - c0 by omega] at zy
    have g1 : ltb ((s : Nat) : Int) ((q : Nat) : Int) = true := by rw [ltb_t]; omega
    have c := hC y x (hpV y (List.mem_of_getElem? hy)) (hpU x (List.mem_of_getElem? hx))
    have hup := hI.up (c := c0) (by omega) (by omega) hx hy
    have hdn := hI.dn (c := c0) (by omega) (by omega) hx hy
    have hlt0 := ltOf_ltb cmp y x
    rw [hlt0] at hup hdn
    have f1 : AV.d (.sc (.int .i64 (wrp .i64 (((c0 : Nat) : Int) + 1)))) = AV.d (.sc (.int .i64 ((c0 + 1 : Nat) : Int))) := by rw [wrp_fit (by omega)]; congr 3; try omega
    have f2 : AV.d (.sc (.int .i64 (wrp .i64 (((mid + m - 1 : Nat) : Int) - ((c0 : Nat) : Int))))) = AV.d (.sc (.int .i64 ((mid + m - 1 - c0 : Nat) : Int))) := by rw [wrp_fit (by omega)]; congr 3; try omega
    generalize cmp y x = cv at *
    cases hcv : ltb cv 0 with
    | true =>
      have gN : (!(ltb cv 0)) = false := by rw [hcv]; rfl
      repeat' (first | ((with_reducible refine gA ?_); (first | refine AW_seq ?_ | refine AW_region ?_ | refine AW_regionD Try.mixed ?_ | (refine AW_condY rfl ?_ ?_; assumption) | (refine AW_condN rfl ?_ ?_; assumption) | refine AW_block ?_ | refine AW_skip ?_)) | ((first | ((with_reducible refine gS ?_); apply Es_q) | ((with_reducible refine gD ?_); apply Ed_q)); rfl; rfl; (first | refine LStep_fitQ (T := Try.tab) rfl rfl f2 | (refine LStep_conv (T := Try.tab) rfl rfl rfl rfl rfl ?_; (first | (refine u64_fit ?_; omega) | (refine IntWalk.i64_in _ ?_; omega))))) | (first | ((with_reducible refine gS ?_); refine Es_s (T := Try.tab) rfl rfl rfl rfl ?_) | ((with_reducible refine gD ?_); refine Ed_s (T := Try.tab) rfl rfl rfl rfl ?_)) | ((first | ((with_reducible refine gS ?_); apply Es_q) | ((with_reducible refine gD ?_); apply Ed_q)); rfl; rfl; (first | (refine LStep_shr rfl rfl rfl ?_ hw rfl; omega) | (refine LStep_indexOwnM (T := Try.tab) rfl rfl rfl rfl rfl rfl rfl ?_ ?_; (simp only [List.length_set, List.length_map]; omega); (simp only [List.length_set, List.length_map]; omega)) | (refine LStep_loadEM (T := Try.tab) rfl rfl rfl rfl rfl ?_ zy rfl; (rw [List.length_map]; omega)) | (refine LStep_loadEM (T := Try.tab) rfl rfl rfl rfl rfl ?_ zx rfl; (rw [List.length_map]; omega)) | refine LStep_callB c rfl rfl ⟨rfl, rfl, trivial⟩ rfl rfl)) | (((with_reducible refine gS ?_); apply Es_q); rfl; rfl; (refine LStep_add rfl rfl rfl rfl ?_; (refine IntWalk.i64_in _ ?_; first | omega | (simp only [cmps] at *; omega)))) | (with_reducible refine Es_nil ?_) | ((with_reducible refine Ed_nil ?_ ?_); kernel_rfl) | (with_reducible refine then_n ?_) | (with_reducible refine block_n ?_))
      all_goals first
        | (refine ⟨(s, c0), hdn hcv, ?_, by (repeat' (first | exact trivial | exact rfl | (refine ⟨Or.inl rfl, ?_⟩) | (refine ⟨Or.inr rfl, ?_⟩) | (refine ⟨Or.inr trivial, ?_⟩) | (refine ⟨rfl, ?_⟩) | (refine ⟨?_, ?_⟩))), by (repeat' (first | exact trivial | exact rfl | (refine ⟨Or.inl rfl, ?_⟩) | (refine ⟨Or.inr rfl, ?_⟩) | (refine ⟨Or.inr trivial, ?_⟩) | (refine ⟨rfl, ?_⟩) | (refine ⟨?_, ?_⟩))), by (repeat' (first | exact trivial | exact rfl | (refine ⟨Or.inl rfl, ?_⟩) | (refine ⟨Or.inr rfl, ?_⟩) | (refine ⟨Or.inr trivial, ?_⟩) | (refine ⟨rfl, ?_⟩) | (refine ⟨?_, ?_⟩))), by (repeat' (first | exact trivial | exact rfl | (refine ⟨Or.inl rfl, ?_⟩) | (refine ⟨Or.inr rfl, ?_⟩) | (refine ⟨Or.inr trivial, ?_⟩) | (refine ⟨rfl, ?_⟩) | (refine ⟨?_, ?_⟩)))⟩ <;> dsimp only <;> omega)
        | trace_state
    | false =>
      have gN : (!(ltb cv 0)) = true := by rw [hcv]; rfl
      repeat' (first | ((with_reducible refine gA ?_); (first | refine AW_seq ?_ | refine AW_region ?_ | refine AW_regionD Try.mixed ?_ | (refine AW_condY rfl ?_ ?_; assumption) | refine AW_block ?_ | refine AW_skip ?_)) | ((first | ((with_reducible refine gS ?_); apply Es_q) | ((with_reducible refine gD ?_); apply Ed_q)); rfl; rfl; (first | refine LStep_fitQ (T := Try.tab) rfl rfl f1 | refine LStep_fitQ (T := Try.tab) rfl rfl f2 | (refine LStep_conv (T := Try.tab) rfl rfl rfl rfl rfl ?_; (first | (refine u64_fit ?_; omega) | (refine IntWalk.i64_in _ ?_; omega))))) | (first | ((with_reducible refine gS ?_); refine Es_s (T := Try.tab) rfl rfl rfl rfl ?_) | ((with_reducible refine gD ?_); refine Ed_s (T := Try.tab) rfl rfl rfl rfl ?_)) | ((first | ((with_reducible refine gS ?_); apply Es_q) | ((with_reducible refine gD ?_); apply Ed_q)); rfl; rfl; (first | (refine LStep_shr rfl rfl rfl ?_ hw rfl; omega) | (refine LStep_indexOwnM (T := Try.tab) rfl rfl rfl rfl rfl rfl rfl ?_ ?_; (simp only [List.length_set, List.length_map]; omega); (simp only [List.length_set, List.length_map]; omega)) | (refine LStep_loadEM (T := Try.tab) rfl rfl rfl rfl rfl ?_ zy rfl; (rw [List.length_map]; omega)) | (refine LStep_loadEM (T := Try.tab) rfl rfl rfl rfl rfl ?_ zx rfl; (rw [List.length_map]; omega)) | refine LStep_callB c rfl rfl ⟨rfl, rfl, trivial⟩ rfl rfl)) | (((with_reducible refine gS ?_); apply Es_q); rfl; rfl; (refine LStep_add rfl rfl rfl rfl ?_; (refine IntWalk.i64_in _ ?_; first | omega | (simp only [cmps] at *; omega)))) | (with_reducible refine Es_nil ?_) | ((with_reducible refine Ed_nil ?_ ?_); kernel_rfl) | (with_reducible refine then_n ?_) | (with_reducible refine block_n ?_))
      all_goals first
        | (refine ⟨(c0 + 1, q), hup hcv, ?_, by (repeat' (first | exact trivial | exact rfl | (refine ⟨Or.inl rfl, ?_⟩) | (refine ⟨Or.inr rfl, ?_⟩) | (refine ⟨Or.inr trivial, ?_⟩) | (refine ⟨rfl, ?_⟩) | (refine ⟨?_, ?_⟩))), by (repeat' (first | exact trivial | exact rfl | (refine ⟨Or.inl rfl, ?_⟩) | (refine ⟨Or.inr rfl, ?_⟩) | (refine ⟨Or.inr trivial, ?_⟩) | (refine ⟨rfl, ?_⟩) | (refine ⟨?_, ?_⟩))), by (repeat' (first | exact trivial | exact rfl | (refine ⟨Or.inl rfl, ?_⟩) | (refine ⟨Or.inr rfl, ?_⟩) | (refine ⟨Or.inr trivial, ?_⟩) | (refine ⟨rfl, ?_⟩) | (refine ⟨?_, ?_⟩))), by (repeat' (first | exact trivial | exact rfl | (refine ⟨Or.inl rfl, ?_⟩) | (refine ⟨Or.inr rfl, ?_⟩) | (refine ⟨Or.inr trivial, ?_⟩) | (refine ⟨rfl, ?_⟩) | (refine ⟨?_, ?_⟩)))⟩ <;> dsimp only <;> omega)
        | trace_state
  have : s = q := by omega
  subst this
  have g1 : ltb ((s : Nat) : Int) ((s : Nat) : Int) = false := by rw [ltb_f]; omega
  have hs4 : a ≤ s ∧ s ≤ m ∧ s ≤ mid ∧ mid + m ≤ b + s := by omega
  have hE := symEnd (g := g) (re := re) (rd := rd) m0 p hO n a m b mid s a m A U V B ha hm hb hn0 hle hpU hpV hSU hSV k ih (by omega) hI hs4 (by omega) (by omega) (by omega) (by omega)
  obtain ⟨s1, s2, s3, s4⟩ := hs4
  have hx1 : 2 * mid ≤ a + b ∧ a + b ≤ 2 * mid + 1 := by omega
  have hx2 : a + 2 ≤ m ∧ m + 2 ≤ b := by omega
  obtain ⟨e, Z1, Z2, he, n1, n2, n3, cR, e0, cM1, e1, cM2, e2⟩ := hE
  have hbn : b ≤ n := by omega
  rw [← hZ0] at cR e0
  generalize A ++ (isL (ltOf cmp) (U ++ V) ++ B) = Z3 at *
  unfold H3 at cR cM1 cM2
  clear hZ0 hn0 zU zV hI ih hk hlen hU0 hV0 hpU hpV hSU hSV hC q1 q2 q3 fN fP hm hb h1 h2 hmid hwm hO ha
  have fE : AV.d (.sc (.int .i64 (wrp .i64 (((mid + m : Nat) : Int) - ((s : Nat) : Int))))) = AV.d (.sc (.int .i64 ((e : Nat) : Int))) := by rw [wrp_fit (by omega)]; congr 3; omega
  have y1 : (Z0.map nN).length = (Z1.map nN).length := by rw [List.length_map, List.length_map, hn, n1]
  have y2 : (Z1.map nN).length = (Z2.map nN).length := by rw [List.length_map, List.length_map, n1, n2]
  have y3 : (Z2.map nN).length = (Z3.map nN).length := by rw [List.length_map, List.length_map, n2, n3]
  by_cases hA : s < m
  · by_cases hB : s < mid
    · by_cases hCc : a < s
      · by_cases hD : e < b
        · have tA : ltb ((s : Nat) : Int) ((m : Nat) : Int) = true := by rw [ltb_t]; omega
          have tB : ltb ((m : Nat) : Int) ((e : Nat) : Int) = true := by rw [ltb_t]; omega
          have tC : ltb ((a : Nat) : Int) ((s : Nat) : Int) = true := by rw [ltb_t]; omega
          have tD : ltb ((s : Nat) : Int) ((mid : Nat) : Int) = true := by rw [ltb_t]; omega
          have tE : ltb ((mid : Nat) : Int) ((e : Nat) : Int) = true := by rw [ltb_t]; omega
          have tF : ltb ((e : Nat) : Int) ((b : Nat) : Int) = true := by rw [ltb_t]; omega
          have cR := cR (by omega) (by omega)
          have cM1 := cM1 (by omega) (by omega)
          have cM2 := cM2 (by omega) (by omega)
          repeat' (first | ((with_reducible refine gA ?_); (first | refine AW_seq ?_ | refine AW_region ?_ | (refine AW_condY rfl ?_ ?_; assumption) | (refine AW_condN rfl ?_ ?_; assumption) | refine AW_exit ?_)) | (((with_reducible refine gS ?_); apply Es_q); rfl; (first | rfl | (refine w_tt ?_; assumption)); refine LStep_fitQ (T := Try.tab) rfl rfl fE) | ((with_reducible refine gS ?_); refine Es_s (T := Try.tab) rfl rfl rfl rfl ?_) | (((with_reducible refine gS ?_); apply Es_xg); rfl; (first | rfl | (refine w_tt ?_; assumption)); (first | refine LStep_callHN [] [] cR rfl rfl ⟨rfl, rfl, rfl, trivial⟩ rfl ⟨y1, trivial, rfl, trivial⟩ rfl rfl | refine LStep_callHN [] [] cM1 rfl rfl ⟨rfl, rfl, rfl, trivial⟩ rfl ⟨y2, trivial, rfl, trivial⟩ rfl rfl | refine LStep_callHN [] [] cM2 rfl rfl ⟨rfl, rfl, rfl, trivial⟩ rfl ⟨y3, trivial, rfl, trivial⟩ rfl rfl); rfl) | (((with_reducible refine gS ?_); apply Es_q); rfl; (first | rfl | (refine w_tt ?_; assumption)); (first | refine LStep_simp (T := Try.tab) rfl rfl | (refine LStep_pickT rfl rfl ?_ rfl rfl; assumption))) | (with_reducible refine Es_nil ?_) | (with_reducible refine then_n ?_) | (with_reducible refine then_e ?_) | ((with_reducible refine block_e ?_ ?_); rfl) | ((with_reducible refine gR ?_); first | refine ret1 rfl ?_ | refine ret2 rfl rfl ?_ | refine ret0 ?_ | refine end1 rfl ?_ | refine end0 ?_))
          all_goals first
            | exact ⟨rfl, by (repeat' (first | exact trivial | exact rfl | (refine ⟨Or.inl rfl, ?_⟩) | (refine ⟨Or.inr rfl, ?_⟩) | (refine ⟨Or.inr trivial, ?_⟩) | (refine ⟨rfl, ?_⟩) | (refine ⟨?_, ?_⟩)))⟩
            | trace_state
        · omega
      · by_cases hD : e < b
        · have tA : ltb ((s : Nat) : Int) ((m : Nat) : Int) = true := by rw [ltb_t]; omega
          have tB : ltb ((m : Nat) : Int) ((e : Nat) : Int) = true := by rw [ltb_t]; omega
          have tC : ltb ((a : Nat) : Int) ((s : Nat) : Int) = false := by rw [ltb_f]; omega
          have tE : ltb ((mid : Nat) : Int) ((e : Nat) : Int) = true := by rw [ltb_t]; omega
          have tF : ltb ((e : Nat) : Int) ((b : Nat) : Int) = true := by rw [ltb_t]; omega
          have cR := cR (by omega) (by omega)
          obtain rfl := e1 (by omega)
          have cM2 := cM2 (by omega) (by omega)
          repeat' (first | ((with_reducible refine gA ?_); (first | refine AW_seq ?_ | refine AW_region ?_ | refine AW_condF rfl ?_ | (refine AW_condY rfl ?_ ?_; assumption) | (refine AW_condN rfl ?_ ?_; assumption) | refine AW_skip ?_ | refine AW_exit ?_)) | (((with_reducible refine gS ?_); apply Es_q); rfl; (first | rfl | (refine w_tt ?_; assumption)); refine LStep_fitQ (T := Try.tab) rfl rfl fE) | ((with_reducible refine gS ?_); refine Es_s (T := Try.tab) rfl rfl rfl rfl ?_) | (((with_reducible refine gS ?_); apply Es_xg); rfl; (first | rfl | (refine w_tt ?_; assumption)); (first | refine LStep_callHN [] [] cR rfl rfl ⟨rfl, rfl, rfl, trivial⟩ rfl ⟨y1, trivial, rfl, trivial⟩ rfl rfl | refine LStep_callHN [] [] cM2 rfl rfl ⟨rfl, rfl, rfl, trivial⟩ rfl ⟨y3, trivial, rfl, trivial⟩ rfl rfl); rfl) | (((with_reducible refine gS ?_); apply Es_q); rfl; (first | rfl | (refine w_tt ?_; assumption)); (first | refine LStep_simp (T := Try.tab) rfl rfl | (refine LStep_pickT rfl rfl ?_ rfl rfl; assumption) | (refine LStep_pickF rfl rfl ?_ rfl rfl; assumption))) | (refine Es_skip rfl ?_ rfl ?_; (first | rfl | (refine w_tf ?_; assumption) | (refine w_ft ?_; assumption))) | (with_reducible refine Es_nil ?_) | (with_reducible refine then_n ?_) | (with_reducible refine then_e ?_) | ((with_reducible refine block_e ?_ ?_); rfl) | ((with_reducible refine gR ?_); first | refine ret1 rfl ?_ | refine ret2 rfl rfl ?_ | refine ret0 ?_ | refine end1 rfl ?_ | refine end0 ?_))
          all_goals first
            | exact ⟨rfl, by (repeat' (first | exact trivial | exact rfl | (refine ⟨Or.inl rfl, ?_⟩) | (refine ⟨Or.inr rfl, ?_⟩) | (refine ⟨Or.inr trivial, ?_⟩) | (refine ⟨rfl, ?_⟩) | (refine ⟨?_, ?_⟩)))⟩
            | trace_state
        · have tA : ltb ((s : Nat) : Int) ((m : Nat) : Int) = true := by rw [ltb_t]; omega
          have tB : ltb ((m : Nat) : Int) ((e : Nat) : Int) = true := by rw [ltb_t]; omega
          have tC : ltb ((a : Nat) : Int) ((s : Nat) : Int) = false := by rw [ltb_f]; omega
          have tE : ltb ((mid : Nat) : Int) ((e : Nat) : Int) = true := by rw [ltb_t]; omega
          have tF : ltb ((e : Nat) : Int) ((b : Nat) : Int) = false := by rw [ltb_f]; omega
          have cR := cR (by omega) (by omega)
          obtain rfl := e1 (by omega)
          obtain rfl := e2 (by omega)
          repeat' (first | ((with_reducible refine gA ?_); (first | refine AW_seq ?_ | refine AW_region ?_ | refine AW_condF rfl ?_ | (refine AW_condY rfl ?_ ?_; assumption) | (refine AW_condN rfl ?_ ?_; assumption) | refine AW_skip ?_ | refine AW_exit ?_)) | (((with_reducible refine gS ?_); apply Es_q); rfl; (first | rfl | (refine w_tt ?_; assumption)); refine LStep_fitQ (T := Try.tab) rfl rfl fE) | ((with_reducible refine gS ?_); refine Es_s (T := Try.tab) rfl rfl rfl rfl ?_) | (((with_reducible refine gS ?_); apply Es_xg); rfl; (first | rfl | (refine w_tt ?_; assumption)); refine LStep_callHN [] [] cR rfl rfl ⟨rfl, rfl, rfl, trivial⟩ rfl ⟨y1, trivial, rfl, trivial⟩ rfl rfl; rfl) | (((with_reducible refine gS ?_); apply Es_q); rfl; (first | rfl | (refine w_tt ?_; assumption)); (first | refine LStep_simp (T := Try.tab) rfl rfl | (refine LStep_pickT rfl rfl ?_ rfl rfl; assumption) | (refine LStep_pickF rfl rfl ?_ rfl rfl; assumption))) | (refine Es_skip rfl ?_ rfl ?_; (first | rfl | (refine w_tf ?_; assumption) | (refine w_ft ?_; assumption))) | (with_reducible refine Es_nil ?_) | (with_reducible refine then_n ?_) | (with_reducible refine then_e ?_) | ((with_reducible refine block_e ?_ ?_); rfl) | ((with_reducible refine gR ?_); first | refine ret1 rfl ?_ | refine ret2 rfl rfl ?_ | refine ret0 ?_ | refine end1 rfl ?_ | refine end0 ?_))
          all_goals first
            | exact ⟨rfl, by (repeat' (first | exact trivial | exact rfl | (refine ⟨Or.inl rfl, ?_⟩) | (refine ⟨Or.inr rfl, ?_⟩) | (refine ⟨Or.inr trivial, ?_⟩) | (refine ⟨rfl, ?_⟩) | (refine ⟨?_, ?_⟩)))⟩
            | trace_state
    · omega
  · by_cases hB : s < mid
    · by_cases hCc : a < s
      · by_cases hD : e < b
        · have tA : ltb ((s : Nat) : Int) ((m : Nat) : Int) = false := by rw [ltb_f]; omega
          have tC : ltb ((a : Nat) : Int) ((s : Nat) : Int) = true := by rw [ltb_t]; omega
          have tD : ltb ((s : Nat) : Int) ((mid : Nat) : Int) = true := by rw [ltb_t]; omega
          have tE : ltb ((mid : Nat) : Int) ((e : Nat) : Int) = false := by rw [ltb_f]; omega
          obtain rfl := e0 (by omega)
          have cM1 := cM1 (by omega) (by omega)
          obtain rfl := e2 (by omega)
          repeat' (first | ((with_reducible refine gA ?_); (first | refine AW_seq ?_ | refine AW_region ?_ | refine AW_condF rfl ?_ | (refine AW_condY rfl ?_ ?_; assumption) | (refine AW_condN rfl ?_ ?_; assumption) | refine AW_skip ?_ | refine AW_exit ?_)) | (((with_reducible refine gS ?_); apply Es_q); rfl; (first | rfl | (refine w_tt ?_; assumption)); refine LStep_fitQ (T := Try.tab) rfl rfl fE) | ((with_reducible refine gS ?_); refine Es_s (T := Try.tab) rfl rfl rfl rfl ?_) | (((with_reducible refine gS ?_); apply Es_xg); rfl; (first | rfl | (refine w_tt ?_; assumption)); refine LStep_callHN [] [] cM1 rfl rfl ⟨rfl, rfl, rfl, trivial⟩ rfl ⟨y2, trivial, rfl, trivial⟩ rfl rfl; rfl) | (((with_reducible refine gS ?_); apply Es_q); rfl; (first | rfl | (refine w_tt ?_; assumption)); (first | refine LStep_simp (T := Try.tab) rfl rfl | (refine LStep_pickT rfl rfl ?_ rfl rfl; assumption) | (refine LStep_pickF rfl rfl ?_ rfl rfl; assumption))) | (refine Es_skip rfl ?_ rfl ?_; (first | rfl | (refine w_tf ?_; assumption) | (refine w_ft ?_; assumption))) | (with_reducible refine Es_nil ?_) | (with_reducible refine then_n ?_) | (with_reducible refine then_e ?_) | ((with_reducible refine block_e ?_ ?_); rfl) | ((with_reducible refine gR ?_); first | refine ret1 rfl ?_ | refine ret2 rfl rfl ?_ | refine ret0 ?_ | refine end1 rfl ?_ | refine end0 ?_))
          all_goals first
            | exact ⟨rfl, by (repeat' (first | exact trivial | exact rfl | (refine ⟨Or.inl rfl, ?_⟩) | (refine ⟨Or.inr rfl, ?_⟩) | (refine ⟨Or.inr trivial, ?_⟩) | (refine ⟨rfl, ?_⟩) | (refine ⟨?_, ?_⟩)))⟩
            | trace_state
        · omega
      · omega
    · by_cases hCc : a < s
      · by_cases hD : e < b
        · have tA : ltb ((s : Nat) : Int) ((m : Nat) : Int) = false := by rw [ltb_f]; omega
          have tC : ltb ((a : Nat) : Int) ((s : Nat) : Int) = true := by rw [ltb_t]; omega
          have tD : ltb ((s : Nat) : Int) ((mid : Nat) : Int) = false := by rw [ltb_f]; omega
          have tE : ltb ((mid : Nat) : Int) ((e : Nat) : Int) = false := by rw [ltb_f]; omega
          obtain rfl := e0 (by omega)
          obtain rfl := e1 (by omega)
          obtain rfl := e2 (by omega)
          repeat' (first | ((with_reducible refine gA ?_); (first | refine AW_seq ?_ | refine AW_region ?_ | refine AW_condF rfl ?_ | (refine AW_condN rfl ?_ ?_; assumption) | refine AW_skip ?_ | refine AW_exit ?_)) | (((with_reducible refine gS ?_); apply Es_q); rfl; (first | rfl | (refine w_tt ?_; assumption)); refine LStep_fitQ (T := Try.tab) rfl rfl fE) | ((with_reducible refine gS ?_); refine Es_s (T := Try.tab) rfl rfl rfl rfl ?_) | (((with_reducible refine gS ?_); apply Es_q); rfl; (first | rfl | (refine w_tt ?_; assumption)); (first | refine LStep_simp (T := Try.tab) rfl rfl | (refine LStep_pickT rfl rfl ?_ rfl rfl; assumption) | (refine LStep_pickF rfl rfl ?_ rfl rfl; assumption))) | (refine Es_skip rfl ?_ rfl ?_; (first | rfl | (refine w_tf ?_; assumption) | (refine w_ft ?_; assumption))) | (with_reducible refine Es_nil ?_) | (with_reducible refine then_n ?_) | (with_reducible refine then_e ?_) | ((with_reducible refine block_e ?_ ?_); rfl) | ((with_reducible refine gR ?_); first | refine ret1 rfl ?_ | refine ret2 rfl rfl ?_ | refine ret0 ?_ | refine end1 rfl ?_ | refine end0 ?_))
          all_goals first
            | exact ⟨rfl, by (repeat' (first | exact trivial | exact rfl | (refine ⟨Or.inl rfl, ?_⟩) | (refine ⟨Or.inr rfl, ?_⟩) | (refine ⟨Or.inr trivial, ?_⟩) | (refine ⟨rfl, ?_⟩) | (refine ⟨?_, ?_⟩)))⟩
            | trace_state
        · omega
      · omega
end
end Go.Proofs.Ytldfncafkdmoiaa
namespace Go.Proofs.Ytldfncafkdmoiaa
open Go.SL
/-! ### the two halves sorted, then joined: plain -/
section
variable {α : Type} {lt : α → α → Bool}
theorem ins_comm (hO : Sort.SWO lt) {x b : α} (h : lt x b = true) : ∀ Q : List α, insL lt b (insL lt x Q) = insL lt x (insL lt b Q)
  | [] => by
    have hb : lt b x = false := by
      cases e : lt b x with
      | false => rfl
      | true => have := hO.trans _ _ _ h e; rw [hO.irrefl] at this; cases this
    simp [insL, h, hb]
  | y :: Q => by
    have hb : lt b x = false := by
      cases e : lt b x with
      | false => rfl
      | true => have := hO.trans _ _ _ h e; rw [hO.irrefl] at this; cases this
    have ih := ins_comm hO h Q
    cases e1 : lt x y with
    | true =>
      cases e2 : lt b y with
      | true => simp [insL, h, hb, e1, e2]
      | false => simp [insL, h, hb, e1, e2]
    | false =>
      cases e2 : lt b y with
      | true =>
        have := hO.trans _ _ _ h e2
        rw [e1] at this
        cases this
      | false =>
        simp only [insL, e1, e2, Bool.false_eq_true, if_false]
        rw [ih]
theorem insAll_comm (hO : Sort.SWO lt) {x : α} : ∀ (B P : List α), (∀ b ∈ B, lt x b = true) → insAll lt (insL lt x P) B = insL lt x (insAll lt P B)
  | [], _, _ => rfl
  | b :: B, P, h => by
    show insAll lt (insL lt b (insL lt x P)) B = insL lt x (insAll lt (insL lt b P) B)
    rw [ins_comm hO (h b List.mem_cons_self), insAll_comm hO B _ (fun c hc => h c (List.mem_cons_of_mem _ hc))]
theorem insAll_ins (hO : Sort.SWO lt) {x : α} : ∀ (Z P : List α), SortedL lt Z → insAll lt P (insL lt x Z) = insL lt x (insAll lt P Z)
  | [], P, _ => rfl
  | z :: Z, P, h => by
    unfold SortedL at h
    rw [List.pairwise_cons] at h
    cases e : lt x z with
    | true =>
      have h1 : insL lt x (z :: Z) = x :: z :: Z := by simp [insL, e]
      rw [h1]
      show insAll lt (insL lt x P) (z :: Z) = _
      refine insAll_comm hO _ _ (fun b hb => ?_)
      rcases List.mem_cons.1 hb with q | q
      · rw [q]; exact e
      · cases e2 : lt x b with
        | true => rfl
        | false =>
          have := hO.ntrans _ _ _ e2 (h.1 b q)
          rw [e] at this
          cases this
    | false =>
      have h1 : insL lt x (z :: Z) = z :: insL lt x Z := by simp [insL, e]
      rw [h1]
      show insAll lt (insL lt z P) (insL lt x Z) = _
      rw [insAll_ins hO Z _ h.2]
      rfl
theorem insAll_isL (hO : Sort.SWO lt) (P : List α) : ∀ (k : Nat) (Y : List α), Y.length = k → insAll lt P (isL lt Y) = insAll lt P Y
  | 0, Y, h => by rw [List.eq_nil_of_length_eq_zero h]; rfl
  | k + 1, Y, h => by
    obtain ⟨x, Y', rfl⟩ : ∃ x Y', Y = Y' ++ [x] := by
      have hne : Y ≠ [] := by intro e; rw [e] at h; cases h
      exact ⟨Y.getLast hne, Y.dropLast, (List.dropLast_concat_getLast hne).symm⟩
    rw [List.length_append] at h
    rw [isL_snoc, insAll_ins hO _ _ (isL_sorted hO Y'), insAll_isL hO P k Y' (by simpa using h), insAll_app]
    rfl
theorem isL_join (hO : Sort.SWO lt) (X Y : List α) : isL lt (isL lt X ++ isL lt Y) = isL lt (X ++ Y) := by
  rw [isL_app, isL_self _ (isL_sorted hO X), insAll_isL hO _ _ Y rfl, ← isL_app]
end
/-! ### symMerge, joined; the stable sort of 41 at most -/
section
variable {g : FuncId} {cmp : Nat → Nat → Int} {re : Nat} {rd : List (List D)}
theorem symN_ac (m0 : Nat) (p : Nat → Prop) (hC : ∀ x y, p x → p y → cbN g cmp m0 re rd x y) (hO : Sort.SWO (ltOf cmp)) : ∀ (k n a m b : Nat) (A U V B : List Nat), U.length + V.length ≤ k → A.length = a → a + U.length = m → m + V.length = b → 0 < U.length → 0 < V.length →
    (A ++ (U ++ (V ++ B))).length = n → n ≤ 4096 → (∀ x ∈ U, p x) → (∀ x ∈ V, p x) → SortedL (ltOf cmp) U → SortedL (ltOf cmp) V →
    AC Try.prog 94 [.own 1000 n, .d (.sc (.int .i64 ((a : Nat) : Int))), .d (.sc (.int .i64 ((m : Nat) : Int))), .d (.sc (.int .i64 ((b : Nat) : Int))), .fn g [.ptr 1100 0]] (H3 [.own 1101 m0] re rd (A ++ (U ++ (V ++ B)))) [1000, 1100, 1101]
      (fun r h' => r = .tup [] ∧ SubH (H3 [.own 1101 m0] re rd (A ++ (isL (ltOf cmp) (U ++ V) ++ B))) h') := by
  intro k
  induction k with
  | zero => intro n a m b A U V B hk _ _ _ hU0; omega
  | succ k ih =>
  intro n a m b A U V B hk ha hm hb hU0 hV0 hn hle hpU hpV hSU hSV
  by_cases h1 : U.length = 1
  · exact symL m0 p hC hO n a m b A U V B ha hm hb hU0 hV0 hn hle hpU hpV hSU hSV h1
  by_cases h2 : V.length = 1
  · exact symR m0 p hC hO n a m b A U V B ha hm hb hU0 hV0 hn hle hpU hpV hSU hSV h1 h2
  by_cases h4 : (a + b) / 2 < m
  · exact symG1 m0 p hC hO n a m b A U V B ha hm hb hU0 hV0 hn hle hpU hpV hSU hSV k ih hk h1 h2 h4
  · exact symG2 m0 p hC hO n a m b A U V B ha hm hb hU0 hV0 hn hle hpU hpV hSU hSV k ih hk h1 h2 h4
end
end Go.Proofs.Ytldfncafkdmoiaa
namespace Go.Proofs.Ytldfncafkdmoiaa
open Go.SL
/-! ### SortStableFunc at ints: 21 to 41 -/
section
variable {g : FuncId} {cmp : Nat → Nat → Int} {re : Nat} {rd : List (List D)}
set_option maxRecDepth 10000 in
set_option maxHeartbeats 8000000 in
theorem stabM_ac (n : Nat) (l : List Nat) (hnl : l.length = n) (h20 : 20 < n) (h41 : n ≤ 41) (m0 : Nat) (hC : ∀ x ∈ l, ∀ y ∈ l, cbN g cmp m0 re rd x y) (hO : Sort.SWO (ltOf cmp)) :
    AC Try.prog 79 [.own 1000 n, .d (.sc (.int .i64 (n : Nat))), .fn g [.ptr 1100 0]] (H3 [.own 1101 m0] re rd l) [1000, 1100, 1101] (fun r h' => r = .tup [] ∧ SubH (H3 [.own 1101 m0] re rd (isL (ltOf cmp) l)) h') := by
  obtain ⟨X, hX⟩ : ∃ X, X = l.take 20 := ⟨_, rfl⟩
  obtain ⟨Y, hY⟩ : ∃ Y, Y = (l.drop 20).take 20 := ⟨_, rfl⟩
  obtain ⟨Z, hZ⟩ : ∃ Z, Z = l.drop 40 := ⟨_, rfl⟩
  have el : l = X ++ (Y ++ Z) := by
    rw [hX, hY, hZ, show l.drop 40 = (l.drop 20).drop 20 by rw [List.drop_drop], List.take_append_drop, List.take_append_drop]
  have lX : X.length = 20 := by rw [hX, List.length_take]; omega
  have lYZ : Y.length + Z.length = n - 20 := by
    have := congrArg List.length el
    simp only [List.length_append] at this
    omega
  have lY : Y.length ≤ 20 := by rw [hY, List.length_take]; omega
  have lZ : Z.length = n - 40 := by rw [hZ, List.length_drop, hnl]
  have mX : ∀ x ∈ X, x ∈ l := fun x hx => by rw [el]; exact List.mem_append_left _ hx
  have mY : ∀ x ∈ Y, x ∈ l := fun x hx => by rw [el]; exact List.mem_append_right _ (List.mem_append_left _ hx)
  have mZ : ∀ x ∈ Z, x ∈ l := fun x hx => by rw [el]; exact List.mem_append_right _ (List.mem_append_right _ hx)
  have pX : ∀ x, x ∈ isL (ltOf cmp) X ↔ x ∈ X := fun x => (isL_perm X).mem_iff
  have pY : ∀ x, x ∈ isL (ltOf cmp) Y ↔ x ∈ Y := fun x => (isL_perm Y).mem_iff
  have pZ : ∀ x, x ∈ isL (ltOf cmp) Z ↔ x ∈ Z := fun x => (isL_perm Z).mem_iff
  have lX' : (isL (ltOf cmp) X).length = 20 := by rw [(isL_perm X).length_eq, lX]
  have lY' : (isL (ltOf cmp) Y).length = Y.length := (isL_perm Y).length_eq
  have lZ' : (isL (ltOf cmp) Z).length = Z.length := (isL_perm Z).length_eq
  have eW : isL (ltOf cmp) (isL (ltOf cmp) X ++ isL (ltOf cmp) Y) = isL (ltOf cmp) (X ++ Y) := isL_join hO X Y
  have eA : isL (ltOf cmp) (isL (ltOf cmp) (X ++ Y) ++ isL (ltOf cmp) Z) = isL (ltOf cmp) l := by rw [isL_join hO, el, List.append_assoc]
  have lW : (isL (ltOf cmp) (X ++ Y)).length = 20 + Y.length := by rw [(isL_perm _).length_eq, List.length_append, lX]
  have pW : ∀ x ∈ isL (ltOf cmp) (X ++ Y), x ∈ l := fun x hx => by
    rcases List.mem_append.1 ((isL_perm _).mem_iff.1 hx) with q | q
    · exact mX x q
    · exact mY x q
  have c1 := insN_ac n [] X (Y ++ Z) (by simp only [List.length_append, List.length_nil]; omega) (by omega) m0 (fun x hx y hy => hC x (mX x hx) y (mX y hy)) hO
  have c2 := insN_ac n (isL (ltOf cmp) X) Y Z (by simp only [List.length_append]; omega) (by omega) m0 (fun x hx y hy => hC x (mY x hx) y (mY y hy)) hO
  have c3 := insN_ac n (isL (ltOf cmp) X ++ isL (ltOf cmp) Y) Z [] (by simp only [List.length_append, List.length_nil]; omega) (by omega) m0 (fun x hx y hy => hC x (mZ x hx) y (mZ y hy)) hO
  have c4 := fun (h0 : 0 < (isL (ltOf cmp) Y).length) => symN_ac (g := g) (re := re) (rd := rd) m0 (fun x => x ∈ l) (fun x y hx hy => hC x hx y hy) hO n n 0 20 (20 + Y.length) [] (isL (ltOf cmp) X) (isL (ltOf cmp) Y) (isL (ltOf cmp) Z) (by omega) rfl (by omega) (by omega) (by omega) h0 (by simp only [List.length_append, List.length_nil]; omega) (by omega) (fun x hx => mX x ((pX x).1 hx)) (fun x hx => mY x ((pY x).1 hx)) (isL_sorted hO X) (isL_sorted hO Y)
  have c5 := fun (hy : Y.length = 20) (h0 : 0 < (isL (ltOf cmp) Z).length) => symN_ac (g := g) (re := re) (rd := rd) m0 (fun x => x ∈ l) (fun x y hx hy => hC x hx y hy) hO n n 0 40 n [] (isL (ltOf cmp) (X ++ Y)) (isL (ltOf cmp) Z) [] (by omega) rfl (by rw [lW]; omega) (by omega) (by omega) h0 (by simp only [List.length_append, List.length_nil]; omega) (by omega) pW (fun x hx => mZ x ((pZ x).1 hx)) (isL_sorted hO _) (isL_sorted hO Z)
  rw [eW] at c4
  rw [eA] at c5
  simp only [List.nil_append, List.append_nil, List.length_nil, List.length_append, Nat.zero_add, lX, lX', lY', lZ', List.append_assoc] at c1 c2 c3 c4 c5
  rw [← el] at c1
  have L0 : (l.map nN).length = n := by rw [List.length_map, hnl]
  have L1 : ((isL (ltOf cmp) X ++ (Y ++ Z)).map nN).length = n := by rw [List.length_map]; simp only [List.length_append]; omega
  have L2 : ((isL (ltOf cmp) X ++ (isL (ltOf cmp) Y ++ Z)).map nN).length = n := by rw [List.length_map]; simp only [List.length_append]; omega
  have L3 : ((isL (ltOf cmp) X ++ (isL (ltOf cmp) Y ++ isL (ltOf cmp) Z)).map nN).length = n := by rw [List.length_map]; simp only [List.length_append]; omega
  have L4 : ((isL (ltOf cmp) (X ++ Y) ++ isL (ltOf cmp) Z).map nN).length = n := by rw [List.length_map]; simp only [List.length_append]; omega
  have L5 : ((isL (ltOf cmp) l).map nN).length = n := by rw [List.length_map, (isL_perm l).length_eq, hnl]
  have eZ : Z.length = 0 → (isL (ltOf cmp) Y ++ isL (ltOf cmp) Z) = (isL (ltOf cmp) Y ++ Z) ∧ isL (ltOf cmp) (X ++ Y) ++ isL (ltOf cmp) Z = isL (ltOf cmp) l := fun h => by
    have : Z = [] := List.eq_nil_of_length_eq_zero h
    subst this
    rw [List.append_nil] at el
    refine ⟨rfl, ?_⟩
    rw [el]
    exact List.append_nil _
  have x1 : ∀ {a b : List (List D)}, a.length = n → b.length = n → a.length = b.length := fun h k => by rw [h, k]
  unfold H3 at *
  clear eW eA lX' lY' lZ' lW pW pX pY pZ mX mY mZ hX hY hZ hC
  generalize hK1 : isL (ltOf cmp) X ++ (Y ++ Z) = K1 at *
  generalize hK2 : isL (ltOf cmp) X ++ (isL (ltOf cmp) Y ++ Z) = K2 at *
  generalize hK3 : isL (ltOf cmp) X ++ (isL (ltOf cmp) Y ++ isL (ltOf cmp) Z) = K3 at *
  generalize hK4 : isL (ltOf cmp) (X ++ Y) ++ isL (ltOf cmp) Z = K4 at *
  generalize hK5 : isL (ltOf cmp) l = K5 at *
  have y1 := x1 L0 L1
  have y2 := x1 L1 L2
  have y3 := x1 L2 L3
  have y4 := x1 L3 L4
  have y5 := x1 L4 L5
  have f1 : leb 20 ((n : Nat) : Int) = true := by rw [leb_t]; omega
  have f2 : ltb 20 ((n : Nat) : Int) = true := by rw [ltb_t]; omega
  by_cases hA : n < 40
  · have z0 : Z.length = 0 := by omega
    have hn2 : 20 + Y.length = n := by omega
    obtain ⟨z1, z2⟩ := eZ z0
    rw [hn2] at c2 c4
    have c4' := c4 (by omega)
    have e3 : K3 = K2 := by rw [← hK3, ← hK2, z1]
    rw [e3] at c4' y4
    rw [z2] at c4' y4
    have f3 : leb (20 + 20) ((n : Nat) : Int) = false := by rw [leb_f]; omega
    have f4 : leb (2 * 20) ((n : Nat) : Int) = false := by rw [leb_f]; omega
    have f5 : ltb (0 + 20) ((n : Nat) : Int) = true := by rw [ltb_t]; omega
    have f6 : ltb (20 * 2) ((n : Nat) : Int) = false := by rw [ltb_f]; omega
    clear c3 c4 c5 y3 y5
    refine AC_enter Try.func79 rfl Try.ntmps79 (rv := []) rfl rfl (by simp) (fun w X G => ?_)
    repeat' (first | ((with_reducible refine gA ?_); (first | refine AW_seq ?_ | refine AW_region ?_ | refine AW_block ?_)) | ((with_reducible refine gS ?_); refine Es_s (T := Try.tab) rfl rfl rfl rfl ?_) | (with_reducible refine Es_nil ?_) | (with_reducible refine then_n ?_))
    refine AW_rounds 3 ?_
    repeat' (first | ((with_reducible refine gRd ?_); refine rounds_stepD [11, 12, 13, 14, 15, 16, 17, 18, 19, 20, 21, 22] [] ?_) | ((with_reducible refine gA ?_); (first | refine AW_seq ?_ | refine AW_region ?_ | (refine AW_condY rfl ?_ ?_; assumption) | (refine AW_condN rfl ?_ ?_; assumption) | refine AW_block ?_ | refine AW_skip ?_ | refine AW_exit ?_)) | ((with_reducible refine gS ?_); refine Es_s (T := Try.tab) rfl rfl rfl rfl ?_) | (((with_reducible refine gS ?_); apply Es_xg); rfl; rfl; (first | refine LStep_callHN [] [] c1 rfl rfl ⟨rfl, rfl, rfl, trivial⟩ rfl ⟨y1, trivial, rfl, trivial⟩ rfl rfl | refine LStep_callHN [] [] c2 rfl rfl ⟨rfl, rfl, rfl, trivial⟩ rfl ⟨y2, trivial, rfl, trivial⟩ rfl rfl); rfl) | (((with_reducible refine gS ?_); apply Es_q); rfl; rfl; (refine LStep_add rfl rfl rfl rfl ?_; (refine IntWalk.i64_in _ ?_; first | omega | (simp only [cmps] at *; omega)))) | (with_reducible refine Es_nil ?_) | (with_reducible refine then_n ?_) | (with_reducible refine then_e ?_) | (with_reducible refine block_n ?_) | ((with_reducible refine block_e ?_ ?_); rfl))
    refine AW_rounds 3 ?_
    repeat' (first | ((with_reducible refine gRd ?_); refine rounds_stepD [28, 29, 30, 31, 32, 33, 34, 35, 36, 37, 38, 39, 40, 41, 42, 43, 44, 45, 46, 47, 48, 49, 50, 51, 52, 53, 54, 55, 56, 57, 58, 59, 60, 61, 62] [] ?_) | ((with_reducible refine gA ?_); (first | refine AW_seq ?_ | refine AW_region ?_ | (refine AW_condY rfl ?_ ?_; assumption) | refine AW_block ?_ | refine AW_skip ?_)) | ((with_reducible refine gS ?_); refine Es_s (T := Try.tab) rfl rfl rfl rfl ?_) | (((with_reducible refine gS ?_); apply Es_q); rfl; rfl; (refine LStep_mul rfl rfl rfl rfl ?_; (refine IntWalk.i64_in _ ?_; first | omega | (simp only [cmps] at *; omega)))) | (with_reducible refine Es_nil ?_) | (with_reducible refine then_n ?_))
    refine AW_rounds 1 ?_
    repeat' (first | ((with_reducible refine gRd ?_); refine rounds_stepD [28, 29, 30, 31, 32, 33, 34, 35, 36, 37, 38, 39, 40, 41, 42, 43, 44, 45, 46, 47, 48, 49, 50, 51, 52, 53, 54, 55, 56, 57, 58, 59, 60, 61, 62] [] ?_) | ((with_reducible refine gA ?_); (first | refine AW_seq ?_ | refine AW_region ?_ | (refine AW_condY rfl ?_ ?_; assumption) | (refine AW_condN rfl ?_ ?_; assumption) | refine AW_exit ?_)) | ((with_reducible refine gS ?_); refine Es_s (T := Try.tab) rfl rfl rfl rfl ?_) | (((with_reducible refine gS ?_); apply Es_xg); rfl; rfl; refine LStep_callHN [] [] c4' rfl rfl ⟨rfl, rfl, rfl, trivial⟩ rfl ⟨y4, trivial, rfl, trivial⟩ rfl rfl; rfl) | (((with_reducible refine gS ?_); apply Es_q); rfl; rfl; (first | (refine LStep_add rfl rfl rfl rfl ?_; (refine IntWalk.i64_in _ ?_; first | omega | (simp only [cmps] at *; omega))) | (refine LStep_mul rfl rfl rfl rfl ?_; (refine IntWalk.i64_in _ ?_; first | omega | (simp only [cmps] at *; omega))))) | (with_reducible refine Es_nil ?_) | (with_reducible refine then_n ?_) | (with_reducible refine then_e ?_) | (with_reducible refine block_n ?_) | ((with_reducible refine block_e ?_ ?_); rfl) | ((with_reducible refine gR ?_); first | refine ret1 rfl ?_ | refine ret2 rfl rfl ?_ | refine ret0 ?_ | refine end1 rfl ?_ | refine end0 ?_))
    all_goals first
      | exact ⟨rfl, by (repeat' (first | exact trivial | exact rfl | (refine ⟨Or.inl rfl, ?_⟩) | (refine ⟨Or.inr rfl, ?_⟩) | (refine ⟨Or.inr trivial, ?_⟩) | (refine ⟨rfl, ?_⟩) | (refine ⟨?_, ?_⟩)))⟩
      | trace_state
  have hn2 : Y.length = 20 := by omega
  rw [hn2] at c2 c3 c4
  have c4' := c4 (by omega)
  have f3 : leb (20 + 20) ((n : Nat) : Int) = true := by rw [leb_t]; omega
  have f3' : leb (20 + 20 + 20) ((n : Nat) : Int) = false := by rw [leb_f]; omega
  have f4 : leb (2 * 20) ((n : Nat) : Int) = true := by rw [leb_t]; omega
  have f4' : leb (2 * 20 + 2 * 20) ((n : Nat) : Int) = false := by rw [leb_f]; omega
  have f5 : ltb (2 * 20 + 20) ((n : Nat) : Int) = false := by rw [ltb_f]; omega
  by_cases hB : n = 40
  · have z0 : Z.length = 0 := by omega
    obtain ⟨z1, z2⟩ := eZ z0
    have e3 : K3 = K2 := by rw [← hK3, ← hK2, z1]
    rw [e3] at c4' y4 c3 y3
    rw [z2] at c4' y4
    rw [z0] at c3
    subst hB
    have f6 : ltb (20 * 2) ((40 : Nat) : Int) = false := by rw [ltb_f]; omega
    clear c4 c5 y5
    refine AC_enter Try.func79 rfl Try.ntmps79 (rv := []) rfl rfl (by simp) (fun w X G => ?_)
    repeat' (first | ((with_reducible refine gA ?_); (first | refine AW_seq ?_ | refine AW_region ?_ | refine AW_block ?_)) | ((with_reducible refine gS ?_); refine Es_s (T := Try.tab) rfl rfl rfl rfl ?_) | (with_reducible refine Es_nil ?_) | (with_reducible refine then_n ?_))
    refine AW_rounds 4 ?_
    repeat' (first | ((with_reducible refine gRd ?_); refine rounds_stepD [11, 12, 13, 14, 15, 16, 17, 18, 19, 20, 21, 22] [] ?_) | ((with_reducible refine gA ?_); (first | refine AW_seq ?_ | refine AW_region ?_ | (refine AW_condY rfl ?_ ?_; assumption) | (refine AW_condN rfl ?_ ?_; assumption) | refine AW_block ?_ | refine AW_skip ?_ | refine AW_exit ?_)) | ((with_reducible refine gS ?_); refine Es_s (T := Try.tab) rfl rfl rfl rfl ?_) | (((with_reducible refine gS ?_); apply Es_xg); rfl; rfl; (first | refine LStep_callHN [] [] c1 rfl rfl ⟨rfl, rfl, rfl, trivial⟩ rfl ⟨y1, trivial, rfl, trivial⟩ rfl rfl | refine LStep_callHN [] [] c2 rfl rfl ⟨rfl, rfl, rfl, trivial⟩ rfl ⟨y2, trivial, rfl, trivial⟩ rfl rfl | refine LStep_callHN [] [] c3 rfl rfl ⟨rfl, rfl, rfl, trivial⟩ rfl ⟨rfl, trivial, rfl, trivial⟩ rfl rfl); rfl) | (((with_reducible refine gS ?_); apply Es_q); rfl; rfl; (refine LStep_add rfl rfl rfl rfl ?_; (refine IntWalk.i64_in _ ?_; first | omega | (simp only [cmps] at *; omega)))) | (with_reducible refine Es_nil ?_) | (with_reducible refine then_n ?_) | (with_reducible refine then_e ?_) | (with_reducible refine block_n ?_) | ((with_reducible refine block_e ?_ ?_); rfl))
    refine AW_rounds 3 ?_
    repeat' (first | ((with_reducible refine gRd ?_); refine rounds_stepD [28, 29, 30, 31, 32, 33, 34, 35, 36, 37, 38, 39, 40, 41, 42, 43, 44, 45, 46, 47, 48, 49, 50, 51, 52, 53, 54, 55, 56, 57, 58, 59, 60, 61, 62] [] ?_) | ((with_reducible refine gA ?_); (first | refine AW_seq ?_ | refine AW_region ?_ | (refine AW_condY rfl ?_ ?_; assumption) | refine AW_block ?_ | refine AW_skip ?_)) | ((with_reducible refine gS ?_); refine Es_s (T := Try.tab) rfl rfl rfl rfl ?_) | (((with_reducible refine gS ?_); apply Es_q); rfl; rfl; (refine LStep_mul rfl rfl rfl rfl ?_; (refine IntWalk.i64_in _ ?_; first | omega | (simp only [cmps] at *; omega)))) | (with_reducible refine Es_nil ?_) | (with_reducible refine then_n ?_))
    refine AW_rounds 3 ?_
    repeat' (first | ((with_reducible refine gRd ?_); refine rounds_stepD [28, 29, 30, 31, 32, 33, 34, 35, 36, 37, 38, 39, 40, 41, 42, 43, 44, 45, 46, 47, 48, 49, 50, 51, 52, 53, 54, 55, 56, 57, 58, 59, 60, 61, 62] [] ?_) | ((with_reducible refine gA ?_); (first | refine AW_seq ?_ | refine AW_region ?_ | (refine AW_condY rfl ?_ ?_; assumption) | (refine AW_condN rfl ?_ ?_; assumption) | refine AW_block ?_ | refine AW_skip ?_ | refine AW_exit ?_)) | ((with_reducible refine gS ?_); refine Es_s (T := Try.tab) rfl rfl rfl rfl ?_) | (((with_reducible refine gS ?_); apply Es_xg); rfl; rfl; refine LStep_callHN [] [] c4' rfl rfl ⟨rfl, rfl, rfl, trivial⟩ rfl ⟨y4, trivial, rfl, trivial⟩ rfl rfl; rfl) | (((with_reducible refine gS ?_); apply Es_q); rfl; rfl; (first | (refine LStep_add rfl rfl rfl rfl ?_; (refine IntWalk.i64_in _ ?_; first | omega | (simp only [cmps] at *; omega))) | (refine LStep_mul rfl rfl rfl rfl ?_; (refine IntWalk.i64_in _ ?_; first | omega | (simp only [cmps] at *; omega))))) | (with_reducible refine Es_nil ?_) | (with_reducible refine then_n ?_) | (with_reducible refine then_e ?_) | (with_reducible refine block_n ?_) | ((with_reducible refine block_e ?_ ?_); rfl) | ((with_reducible refine gR ?_); first | refine ret1 rfl ?_ | refine ret2 rfl rfl ?_ | refine ret0 ?_ | refine end1 rfl ?_ | refine end0 ?_))
    all_goals first
      | exact ⟨rfl, by (repeat' (first | exact trivial | exact rfl | (refine ⟨Or.inl rfl, ?_⟩) | (refine ⟨Or.inr rfl, ?_⟩) | (refine ⟨Or.inr trivial, ?_⟩) | (refine ⟨rfl, ?_⟩) | (refine ⟨?_, ?_⟩)))⟩
      | trace_state
  · have hC : n = 41 := by omega
    subst hC
    have z1 : Z.length = 1 := by omega
    rw [z1] at c3
    have c5' := c5 hn2 (by omega)
    have f6 : ltb (20 * 2) ((41 : Nat) : Int) = true := by rw [ltb_t]; omega
    have f7 : leb (2 * (20 * 2)) ((41 : Nat) : Int) = false := by rw [leb_f]; omega
    have f8 : ltb (0 + 20 * 2) ((41 : Nat) : Int) = true := by rw [ltb_t]; omega
    have f9 : ltb (20 * 2 * 2) ((41 : Nat) : Int) = false := by rw [ltb_f]; omega
    clear c4 c5
    refine AC_enter Try.func79 rfl Try.ntmps79 (rv := []) rfl rfl (by simp) (fun w X G => ?_)
    repeat' (first | ((with_reducible refine gA ?_); (first | refine AW_seq ?_ | refine AW_region ?_ | refine AW_block ?_)) | ((with_reducible refine gS ?_); refine Es_s (T := Try.tab) rfl rfl rfl rfl ?_) | (with_reducible refine Es_nil ?_) | (with_reducible refine then_n ?_))
    refine AW_rounds 4 ?_
    repeat' (first | ((with_reducible refine gRd ?_); refine rounds_stepD [11, 12, 13, 14, 15, 16, 17, 18, 19, 20, 21, 22] [] ?_) | ((with_reducible refine gA ?_); (first | refine AW_seq ?_ | refine AW_region ?_ | (refine AW_condY rfl ?_ ?_; assumption) | (refine AW_condN rfl ?_ ?_; assumption) | refine AW_block ?_ | refine AW_skip ?_ | refine AW_exit ?_)) | ((with_reducible refine gS ?_); refine Es_s (T := Try.tab) rfl rfl rfl rfl ?_) | (((with_reducible refine gS ?_); apply Es_xg); rfl; rfl; (first | refine LStep_callHN [] [] c1 rfl rfl ⟨rfl, rfl, rfl, trivial⟩ rfl ⟨y1, trivial, rfl, trivial⟩ rfl rfl | refine LStep_callHN [] [] c2 rfl rfl ⟨rfl, rfl, rfl, trivial⟩ rfl ⟨y2, trivial, rfl, trivial⟩ rfl rfl | refine LStep_callHN [] [] c3 rfl rfl ⟨rfl, rfl, rfl, trivial⟩ rfl ⟨y3, trivial, rfl, trivial⟩ rfl rfl); rfl) | (((with_reducible refine gS ?_); apply Es_q); rfl; rfl; (refine LStep_add rfl rfl rfl rfl ?_; (refine IntWalk.i64_in _ ?_; first | omega | (simp only [cmps] at *; omega)))) | (with_reducible refine Es_nil ?_) | (with_reducible refine then_n ?_) | (with_reducible refine then_e ?_) | (with_reducible refine block_n ?_) | ((with_reducible refine block_e ?_ ?_); rfl))
    refine AW_rounds 4 ?_
    repeat' (first | ((with_reducible refine gRd ?_); refine rounds_stepD [28, 29, 30, 31, 32, 33, 34, 35, 36, 37, 38, 39, 40, 41, 42, 43, 44, 45, 46, 47, 48, 49, 50, 51, 52, 53, 54, 55, 56, 57, 58, 59, 60, 61, 62] [] ?_) | ((with_reducible refine gA ?_); (first | refine AW_seq ?_ | refine AW_region ?_ | (refine AW_condY rfl ?_ ?_; assumption) | refine AW_block ?_ | refine AW_skip ?_)) | ((with_reducible refine gS ?_); refine Es_s (T := Try.tab) rfl rfl rfl rfl ?_) | (((with_reducible refine gS ?_); apply Es_q); rfl; rfl; (refine LStep_mul rfl rfl rfl rfl ?_; (refine IntWalk.i64_in _ ?_; first | omega | (simp only [cmps] at *; omega)))) | (with_reducible refine Es_nil ?_) | (with_reducible refine then_n ?_))
    refine AW_rounds 3 ?_
    repeat' (first | ((with_reducible refine gRd ?_); refine rounds_stepD [28, 29, 30, 31, 32, 33, 34, 35, 36, 37, 38, 39, 40, 41, 42, 43, 44, 45, 46, 47, 48, 49, 50, 51, 52, 53, 54, 55, 56, 57, 58, 59, 60, 61, 62] [] ?_) | ((with_reducible refine gA ?_); (first | refine AW_seq ?_ | refine AW_region ?_ | (refine AW_condY rfl ?_ ?_; assumption) | (refine AW_condN rfl ?_ ?_; assumption) | refine AW_block ?_ | refine AW_skip ?_ | refine AW_exit ?_)) | ((with_reducible refine gS ?_); refine Es_s (T := Try.tab) rfl rfl rfl rfl ?_) | (((with_reducible refine gS ?_); apply Es_xg); rfl; rfl; refine LStep_callHN [] [] c4' rfl rfl ⟨rfl, rfl, rfl, trivial⟩ rfl ⟨y4, trivial, rfl, trivial⟩ rfl rfl; rfl) | (((with_reducible refine gS ?_); apply Es_q); rfl; rfl; (first | (refine LStep_add rfl rfl rfl rfl ?_; (refine IntWalk.i64_in _ ?_; first | omega | (simp only [cmps] at *; omega))) | (refine LStep_mul rfl rfl rfl rfl ?_; (refine IntWalk.i64_in _ ?_; first | omega | (simp only [cmps] at *; omega))))) | (with_reducible refine Es_nil ?_) | (with_reducible refine then_n ?_) | (with_reducible refine then_e ?_) | (with_reducible refine block_n ?_) | ((with_reducible refine block_e ?_ ?_); rfl))
    refine AW_rounds 1 ?_
    repeat' (first | ((with_reducible refine gRd ?_); refine rounds_stepD [28, 29, 30, 31, 32, 33, 34, 35, 36, 37, 38, 39, 40, 41, 42, 43, 44, 45, 46, 47, 48, 49, 50, 51, 52, 53, 54, 55, 56, 57, 58, 59, 60, 61, 62] [] ?_) | ((with_reducible refine gA ?_); (first | refine AW_seq ?_ | refine AW_region ?_ | (refine AW_condY rfl ?_ ?_; assumption) | (refine AW_condN rfl ?_ ?_; assumption) | refine AW_exit ?_)) | ((with_reducible refine gS ?_); refine Es_s (T := Try.tab) rfl rfl rfl rfl ?_) | (((with_reducible refine gS ?_); apply Es_xg); rfl; rfl; refine LStep_callHN [] [] c5' rfl rfl ⟨rfl, rfl, rfl, trivial⟩ rfl ⟨y5, trivial, rfl, trivial⟩ rfl rfl; rfl) | (((with_reducible refine gS ?_); apply Es_q); rfl; rfl; (first | (refine LStep_add rfl rfl rfl rfl ?_; (refine IntWalk.i64_in _ ?_; first | omega | (simp only [cmps] at *; omega))) | (refine LStep_mul rfl rfl rfl rfl ?_; (refine IntWalk.i64_in _ ?_; first | omega | (simp only [cmps] at *; omega))))) | (with_reducible refine Es_nil ?_) | (with_reducible refine then_n ?_) | (with_reducible refine then_e ?_) | (with_reducible refine block_n ?_) | ((with_reducible refine block_e ?_ ?_); rfl) | ((with_reducible refine gR ?_); first | refine ret1 rfl ?_ | refine ret2 rfl rfl ?_ | refine ret0 ?_ | refine end1 rfl ?_ | refine end0 ?_))
    all_goals first
      | exact ⟨rfl, by (repeat' (first | exact trivial | exact rfl | (refine ⟨Or.inl rfl, ?_⟩) | (refine ⟨Or.inr rfl, ?_⟩) | (refine ⟨Or.inr trivial, ?_⟩) | (refine ⟨rfl, ?_⟩) | (refine ⟨?_, ?_⟩)))⟩
      | trace_state
set_option maxRecDepth 10000 in
theorem sortM_ac (n : Nat) (l : List Nat) (hnl : l.length = n) (h41 : n ≤ 41) (m0 : Nat) (hC : ∀ x ∈ l, ∀ y ∈ l, cbN g cmp m0 re rd x y) (hO : Sort.SWO (ltOf cmp)) :
    AC Try.prog 51 [.own 1000 n, .fn g [.ptr 1100 0]] (H3 [.own 1101 m0] re rd l) [1000, 1100, 1101] (fun r h' => r = .tup [] ∧ SubH (H3 [.own 1101 m0] re rd (isL (ltOf cmp) l)) h') := by
  by_cases h20 : n ≤ 20
  · exact sortN_ac n l hnl h20 m0 hC hO
  have c1 := stabM_ac n l hnl (by omega) h41 m0 hC hO
  have hl1 : (l.map nN).length = ((isL (ltOf cmp) l).map nN).length := by rw [List.length_map, List.length_map, (isL_perm (lt := ltOf cmp) l).length_eq]
  have hz : (l.map nN).length = n := by rw [List.length_map, hnl]
  unfold H3 at *
  generalize isL (ltOf cmp) l = l2 at *
  refine AC_enter Try.func51 rfl Try.ntmps51 (rv := []) rfl rfl (by simp) (fun w X G => ?_)
  repeat' (first | ((with_reducible refine gA ?_); refine AW_region ?_) | ((with_reducible refine gS ?_); refine Es_s (T := Try.tab) rfl rfl rfl rfl ?_) | (((with_reducible refine gS ?_); apply Es_q); rfl; rfl; refine LStep_lenOwn (T := Try.tab) rfl rfl rfl rfl rfl hz) | (((with_reducible refine gS ?_); apply Es_xg); rfl; rfl; refine LStep_callHN [] [] c1 rfl rfl ⟨rfl, rfl, rfl, trivial⟩ rfl ⟨hl1, trivial, rfl, trivial⟩ rfl rfl; rfl) | (with_reducible refine Es_nil ?_) | ((with_reducible refine gR ?_); first | refine ret1 rfl ?_ | refine ret2 rfl rfl ?_ | refine ret0 ?_ | refine end1 rfl ?_ | refine end0 ?_))
  all_goals first
    | exact ⟨rfl, by (repeat' (first | exact trivial | exact rfl | (refine ⟨Or.inl rfl, ?_⟩) | (refine ⟨Or.inr rfl, ?_⟩) | (refine ⟨Or.inr trivial, ?_⟩) | (refine ⟨rfl, ?_⟩) | (refine ⟨?_, ?_⟩)))⟩
    | trace_state
end
end Go.Proofs.Ytldfncafkdmoiaa
