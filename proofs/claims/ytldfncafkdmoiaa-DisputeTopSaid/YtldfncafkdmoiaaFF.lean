import Derived.Test.YtldfncafkdmoiaaFE
namespace Go.Proofs.Ytldfncafkdmoiaa
open Go.SL
/-! ### Rank -/
def clD : List D → Cl
  | [.sc (.string n), .sc (.string t), .sc (.int _ r), .sc (.int _ d), .sc (.int _ a)] => ⟨n, t, r, d, a⟩
  | _ => zC
def jdgD (x y : List D) : Int := jdg (clD x) (clD y)
theorem swoJD : Sort.SWO (ltOf jdgD) := ⟨fun x => swoJ.irrefl _, fun x y z => swoJ.trans _ _ _, fun x y z => swoJ.ntrans _ _ _⟩
set_option maxRecDepth 10000 in
theorem cloneC0_ac : AC Try.prog 26 [.d (.sl 5 [])] [] [] (fun r _ => r = .d (.sl 5 [])) := by
  refine AC_enter Try.func26 rfl Try.ntmps26 (rv := [.tmp 2]) rfl rfl (by simp) (fun w X G => ?_)
  repeat' (first | ((with_reducible refine gS ?_); refine Es_eqNil (T := Try.tab) rfl rfl rfl rfl rfl rfl (fun h0 => ?_) ?_) | ((with_reducible refine gRc ?_); first | refine AW_freeze [2] (id := 5) ⟨rfl, trivial⟩ rfl rfl ?_ | refine AW_nilD 5 2 rfl ?_) | ((with_reducible refine gA ?_); (first | refine AW_seq ?_ | refine AW_region ?_ | refine AW_condT rfl ?_ | refine AW_condF rfl ?_ | refine AW_ret ?_ | refine AW_skip ?_)) | ((with_reducible refine gS ?_); refine Es_s (T := Try.tab) rfl rfl rfl rfl ?_) | (((with_reducible refine gS ?_); apply Es_xs); rfl; rfl; (first | (refine LStep_litOwn (T := Try.tab) (len := 0) rfl rfl rfl rfl rfl rfl rfl rfl rfl rfl ?_ ?_; (refine Nat.le_of_ble_eq_true ?_; rfl); (unfold maxLen; omega)) | (refine LStep_append (T := Try.tab) rfl rfl rfl rfl rfl rfl rfl rfl rfl rfl ?_ ?_ ?_; rfl; (simp only [List.length_nil]; omega); (unfold maxLen; simp only [List.length_nil]; omega))); rfl) | (with_reducible refine Es_nil ?_) | (with_reducible refine then_n ?_) | (with_reducible refine then_r ?_) | ((with_reducible refine gR ?_); first | refine ret1 rfl ?_ | refine ret2 rfl rfl ?_ | refine ret0 ?_ | refine end1 rfl ?_ | refine end0 ?_))
  all_goals rfl
set_option maxRecDepth 10000 in
theorem cloneC1_ac (l : List Cl) (hl : l.length ≤ 1048576) (hne : l.map Cl.enc ≠ []) : AC Try.prog 26 [.d (.sl 5 (l.map Cl.enc))] [] [] (fun r h' => r = .own 5 (l.map Cl.enc).length ∧ SubH [(5, some (.arr 23 5 (l.map Cl.enc)))] h') := by
  refine AC_enter Try.func26 rfl Try.ntmps26 (rv := [.tmp 2]) rfl rfl (by simp) (fun w X G => ?_)
  repeat' (first | ((with_reducible refine gS ?_); refine Es_eqNil (T := Try.tab) rfl rfl rfl rfl rfl rfl (fun h0 => absurd h0 hne) ?_) | ((with_reducible refine gA ?_); (first | refine AW_seq ?_ | refine AW_region ?_ | refine AW_condF rfl ?_ | refine AW_ret ?_ | refine AW_skip ?_)) | ((with_reducible refine gS ?_); refine Es_s (T := Try.tab) rfl rfl rfl rfl ?_) | (((with_reducible refine gS ?_); apply Es_xs); rfl; rfl; (first | (refine LStep_litOwn (T := Try.tab) (len := 0) rfl rfl rfl rfl rfl rfl rfl rfl rfl rfl ?_ ?_; (refine Nat.le_of_ble_eq_true ?_; rfl); (unfold maxLen; omega)) | (refine LStep_append (T := Try.tab) rfl rfl rfl rfl rfl rfl rfl rfl rfl rfl ?_ ?_ ?_; rfl; (simp only [List.length_map, List.length_nil]; omega); (unfold maxLen; simp only [List.length_map, List.length_nil]; omega))); rfl) | (with_reducible refine Es_nil ?_) | (with_reducible refine then_n ?_) | ((with_reducible refine gR ?_); first | refine ret1 rfl ?_ | refine ret2 rfl rfl ?_ | refine ret0 ?_ | refine end1 rfl ?_ | refine end0 ?_))
  exact ⟨rfl, rfl, trivial⟩
theorem sortCl_ac (e : List Cl) (hl : e.length ≤ 1048576) : AC Try.prog 27 [.own 1000 e.length, .fn 28 []] (H0 23 5 (e.map Cl.enc)) [1000] (fun r h' => r = .tup [] ∧ SubH (H0 23 5 ((isL ltJ e).map Cl.enc)) h') :=
  sortFunc_ac Try.sortClaims 5 Try.isAgg23 Try.sizeOf23 (callable_of Try.func27 rfl rfl) (callable_of Try.func28 rfl rfl)
    23 e.length (e.map Cl.enc) ((isL ltJ e).map Cl.enc) jdgD swoJD (List.length_map _).symm (by rw [List.length_map]; omega)
    (fun x hx y hy => by
      obtain ⟨p, _, rfl⟩ := List.mem_map.1 hx
      obtain ⟨q, _, rfl⟩ := List.mem_map.1 hy
      exact rank1_ac p q)
    ((isL_perm e).map _) (List.pairwise_map.2 ((isL_sorted swoJ e).imp (fun h => h)))
    (fun x hx y hy h1 h2 => by
      obtain ⟨p, _, rfl⟩ := List.mem_map.1 hx
      obtain ⟨q, _, rfl⟩ := List.mem_map.1 hy
      rw [ltJ_tri (a := p) (b := q) h1 h2])
section
open Go.RowKit Go.Proofs Go.Shelf
/-- slices.SortFunc at no element. -/
theorem sortFunc0_ac {P : Program} {ρ : Ren} (L : SlLaysF0.n6 P ρ) (k : Nat) (hf : Callable P (ρ.f 6)) (g : FuncId) : AC P (ρ.f 6) [.d (.sl k []), .fn g []] [] [] (fun r _ => r = .tup []) := by
  refine ⟨hf, fun w X G vs r hl hv => ?_⟩
  match vs, hl with
  | [v, v2], _ =>
    have h1 := hv 0 _ v rfl rfl
    cases h1 with
    | d _ _ h =>
      cases h with
      | sl _ _ A n c b off vs hn =>
        cases hn
        refine (AnyF.slices_SortFunc_none L A c _ w).mono ?_
        rintro ex w' ⟨rfl, rfl⟩
        exact ⟨_, .tup [], [], G, rfl, r, .tup [] #[] rfl (fun i c v hc _ => by simp at hc), rfl⟩
end
theorem sortCl0_ac : AC Try.prog 27 [.d (.sl 5 []), .fn 28 []] [] [] (fun r _ => r = .tup []) :=
  sortFunc0_ac Try.sortClaims 5 (callable_of Try.func27 rfl rfl) _
set_option maxRecDepth 10000 in
theorem rank_ac (l : List Cl) (hl : l.length ≤ 1048576) : AC Try.prog 16 [.d (.sl 5 (l.map Cl.enc))] [] [] (fun r _ => r = .d (.sl 5 ((isL ltJ l).map Cl.enc))) := by
  by_cases h0 : l = []
  · subst h0
    refine AC_enter Try.func16 rfl Try.ntmps16 (rv := [.tmp 2]) rfl rfl (by simp) (fun w X G => ?_)
    repeat' (first | ((with_reducible refine gA ?_); (first | refine AW_seq ?_ | refine AW_region ?_ | refine AW_ret ?_)) | ((with_reducible refine gS ?_); refine Es_s (T := Try.tab) rfl rfl rfl rfl ?_) | (((with_reducible refine gS ?_); apply Es_q); rfl; rfl; (first | refine LStep_call (cloneC0_ac) rfl rfl rfl rfl | refine LStep_call (sortCl0_ac) rfl rfl rfl rfl)) | (with_reducible refine Es_nil ?_) | (with_reducible refine then_n ?_) | ((with_reducible refine gR ?_); first | refine ret1 rfl ?_ | refine ret2 rfl rfl ?_ | refine ret0 ?_ | refine end1 rfl ?_ | refine end0 ?_))
    all_goals first
      | rfl
      | trace_state
  · have cc := cloneC1_ac l (by omega) (fun h => h0 (List.map_eq_nil_iff.1 h))
    have cs := sortCl_ac l hl
    rw [List.length_map] at cc
    have hll : (l.map Cl.enc).length = ((isL ltJ l).map Cl.enc).length := by rw [List.length_map, List.length_map, (isL_perm l).length_eq]
    have hl2 : ((isL ltJ l).map Cl.enc).length = l.length := by rw [List.length_map, (isL_perm l).length_eq]
    generalize isL ltJ l = M at *
    refine AC_enter Try.func16 rfl Try.ntmps16 (rv := [.tmp 2]) rfl rfl (by simp) (fun w X G => ?_)
    repeat' (first | ((with_reducible refine gRc ?_); refine AW_freeze [2] (id := 5) ⟨rfl, trivial⟩ rfl hl2 ?_) | ((with_reducible refine gA ?_); (first | refine AW_seq ?_ | refine AW_region ?_ | refine AW_ret ?_)) | ((with_reducible refine gS ?_); refine Es_s (T := Try.tab) rfl rfl rfl rfl ?_) | (((with_reducible refine gS ?_); apply Es_xg); rfl; rfl; (first | refine LStep_callHN [] [(5, 5)] cc rfl rfl trivial rfl trivial rfl rfl | refine LStep_callHN [(1000, 5)] [] cs rfl rfl ⟨rfl, trivial⟩ rfl ⟨hll, trivial⟩ rfl rfl); rfl) | (with_reducible refine Es_nil ?_) | (with_reducible refine then_n ?_) | ((with_reducible refine gR ?_); first | refine ret1 rfl ?_ | refine ret2 rfl rfl ?_ | refine ret0 ?_ | refine end1 rfl ?_ | refine end0 ?_))
    all_goals first
      | rfl
      | trace_state
/-! ### the document's Rank, Same, Few -/
def fewC (c : Cl) : Bool := decide (c.nm.size + c.th.size ≤ 100)
def fewCl (l : List Cl) : Bool := decide (l.length ≤ 41) && l.all fewC
theorem fewC_step {l : List Cl} {k : Nat} {x : Cl} (hx : l[k]? = some x) (ha : (l.take k).all fewC = true) : (fewC x = false → l.all fewC = false) ∧ (fewC x = true → (l.take (k + 1)).all fewC = true) := by
  refine ⟨fun h => ?_, fun h => ?_⟩
  · rw [List.all_eq_false]
    exact ⟨x, List.mem_of_getElem? hx, by rw [h]; decide⟩
  · rw [take_at hx, List.all_append, ha]
    simp [h]
set_option maxRecDepth 10000 in
set_option maxHeartbeats 4000000 in
theorem rfew_ac (l : List Cl) (hl : l.length ≤ 140737488351232) (hs : ∀ c ∈ l, c.nm.size ≤ 140737488351232 ∧ c.th.size ≤ 140737488351232) : AC Try.prog 11 [.d (.sl 5 (l.map Cl.enc))] [] [] (fun r _ => r = .d (.sc (.bool (fewCl l)))) := by
  refine AC_enter Try.func11 rfl Try.ntmps11 (rv := [.tmp 2]) rfl rfl (by simp) (fun w X G => ?_)
  repeat' (first | ((with_reducible refine gA ?_); (first | refine AW_seq ?_ | refine AW_region ?_ | refine AW_block ?_)) | ((with_reducible refine gS ?_); refine Es_s (T := Try.tab) rfl rfl rfl rfl ?_) | (with_reducible refine Es_nil ?_) | (with_reducible refine then_n ?_))
  refine AW_forE (S := Nat) (fun k => k ≤ l.length ∧ k ≤ 41 ∧ (l.take k).all fewC = true) (fun k => [(3, .d (.sc (.int .i64 (k : Nat))))]) (fun _ => []) (fun k => l.length - k) 0 ⟨by omega, by omega, rfl⟩ (by (repeat' (first | exact trivial | exact rfl | (refine ⟨Or.inl rfl, ?_⟩) | (refine ⟨Or.inr rfl, ?_⟩) | (refine ⟨Or.inr trivial, ?_⟩) | (refine ⟨rfl, ?_⟩) | (refine ⟨?_, ?_⟩)))) (by (repeat' (first | exact trivial | exact rfl | (refine ⟨Or.inl rfl, ?_⟩) | (refine ⟨Or.inr rfl, ?_⟩) | (refine ⟨Or.inr trivial, ?_⟩) | (refine ⟨rfl, ?_⟩) | (refine ⟨?_, ?_⟩)))) ?_
  intro k ⟨hk, hk41, ha⟩
  by_cases hlt : k < l.length
  · obtain ⟨x, hx, _⟩ := drop_at hlt
    obtain ⟨m1, m2⟩ := fewC_step hx ha
    have hxs := hs x (List.mem_of_getElem? hx)
    have g1 : ltb (k : Nat) (l.length : Nat) = true := by rw [ltb_t]; omega
    by_cases h41 : k = 41
    · have hf : fewCl l = false := by unfold fewCl; rw [decide_eq_false (by omega)]; rfl
      have g2 : ltb 40 (k : Nat) = true := by rw [ltb_t]; omega
      rw [hf]
      repeat' (first | ((with_reducible refine gA ?_); (first | refine AW_seq ?_ | refine AW_region ?_ | refine AW_regionD Try.mixed ?_ | refine AW_condT rfl ?_ | (refine AW_condY rfl ?_ ?_; assumption) | refine AW_block ?_ | refine AW_ret ?_ | refine AW_skip ?_)) | (first | ((with_reducible refine gS ?_); refine Es_s (T := Try.tab) rfl rfl rfl rfl ?_) | ((with_reducible refine gD ?_); refine Ed_s (T := Try.tab) rfl rfl rfl rfl ?_)) | ((first | ((with_reducible refine gS ?_); apply Es_q) | ((with_reducible refine gD ?_); apply Ed_q)); rfl; rfl; (first | refine LStep_lenM (T := Try.tab) rfl rfl rfl rfl | (refine LStep_pickT rfl rfl ?_ rfl rfl; assumption))) | (refine Ed_skip rfl ?_ rfl ?_; (first | rfl | (refine w_tf ?_; assumption) | (refine w_ft ?_; assumption))) | (with_reducible refine Es_nil ?_) | ((with_reducible refine Ed_nil ?_ ?_); kernel_rfl) | (with_reducible refine then_n ?_) | (with_reducible refine then_r ?_) | (with_reducible refine block_r ?_) | ((with_reducible refine gR ?_); first | refine ret1 rfl ?_ | refine ret2 rfl rfl ?_ | refine ret0 ?_ | refine end1 rfl ?_ | refine end0 ?_))
      all_goals first
        | rfl
        | trace_state
    · have g2 : ltb 40 (k : Nat) = false := by rw [ltb_f]; omega
      by_cases hb : x.nm.size + x.th.size ≤ 100
      · have g3 : ltb 100 ((x.nm.size : Nat) + (x.th.size : Nat)) = false := by rw [ltb_f]; omega
        repeat' (first | ((with_reducible refine gA ?_); (first | refine AW_seq ?_ | refine AW_region ?_ | refine AW_regionD Try.mixed ?_ | (refine AW_condY rfl ?_ ?_; assumption) | (refine AW_condN rfl ?_ ?_; assumption) | refine AW_block ?_ | refine AW_skip ?_)) | (first | ((with_reducible refine gS ?_); refine Es_s (T := Try.tab) rfl rfl rfl rfl ?_) | ((with_reducible refine gD ?_); refine Ed_s (T := Try.tab) rfl rfl rfl rfl ?_)) | ((first | ((with_reducible refine gS ?_); apply Es_q) | ((with_reducible refine gD ?_); apply Ed_q)); rfl; (first | rfl | (refine w_ff ?_; assumption)); (first | refine LStep_simp (T := Try.tab) rfl rfl | refine LStep_lenM (T := Try.tab) rfl rfl rfl rfl | (refine LStep_add rfl rfl rfl rfl ?_; (refine IntWalk.i64_in _ ?_; first | omega | (simp only [cmps] at *; omega))) | refine LStep_wrap (T := Try.tab) rfl rfl | (refine LStep_pickF rfl rfl ?_ rfl rfl; assumption) | (refine LStep_indexM (T := Try.tab) (c := ?_) rfl rfl rfl rfl rfl rfl ?_; rotate_left; assumption))) | (with_reducible refine Es_nil ?_) | ((with_reducible refine Ed_nil ?_ ?_); kernel_rfl) | (with_reducible refine then_n ?_) | (with_reducible refine block_n ?_))
        all_goals first
          | (refine ⟨k + 1, ⟨by omega, by omega, m2 (by unfold fewC; rw [decide_eq_true hb])⟩, by omega, by (repeat' (first | exact trivial | exact rfl | (refine ⟨Or.inl rfl, ?_⟩) | (refine ⟨Or.inr rfl, ?_⟩) | (refine ⟨Or.inr trivial, ?_⟩) | (refine ⟨rfl, ?_⟩) | (refine ⟨?_, ?_⟩))), by (repeat' (first | exact trivial | exact rfl | (refine ⟨Or.inl rfl, ?_⟩) | (refine ⟨Or.inr rfl, ?_⟩) | (refine ⟨Or.inr trivial, ?_⟩) | (refine ⟨rfl, ?_⟩) | (refine ⟨?_, ?_⟩))), by (repeat' (first | exact trivial | exact rfl | (refine ⟨Or.inl rfl, ?_⟩) | (refine ⟨Or.inr rfl, ?_⟩) | (refine ⟨Or.inr trivial, ?_⟩) | (refine ⟨rfl, ?_⟩) | (refine ⟨?_, ?_⟩))), by (repeat' (first | exact trivial | exact rfl | (refine ⟨Or.inl rfl, ?_⟩) | (refine ⟨Or.inr rfl, ?_⟩) | (refine ⟨Or.inr trivial, ?_⟩) | (refine ⟨rfl, ?_⟩) | (refine ⟨?_, ?_⟩)))⟩; done)
          | trace_state
      · have g3 : ltb 100 ((x.nm.size : Nat) + (x.th.size : Nat)) = true := by rw [ltb_t]; omega
        have hf : fewCl l = false := by unfold fewCl; rw [m1 (by unfold fewC; rw [decide_eq_false hb]), Bool.and_false]
        rw [hf]
        repeat' (first | ((with_reducible refine gA ?_); (first | refine AW_seq ?_ | refine AW_region ?_ | refine AW_regionD Try.mixed ?_ | (refine AW_condY rfl ?_ ?_; assumption) | refine AW_block ?_ | refine AW_ret ?_ | refine AW_skip ?_)) | (first | ((with_reducible refine gS ?_); refine Es_s (T := Try.tab) rfl rfl rfl rfl ?_) | ((with_reducible refine gD ?_); refine Ed_s (T := Try.tab) rfl rfl rfl rfl ?_)) | ((first | ((with_reducible refine gS ?_); apply Es_q) | ((with_reducible refine gD ?_); apply Ed_q)); rfl; (first | rfl | (refine w_ff ?_; assumption)); (first | refine LStep_simp (T := Try.tab) rfl rfl | refine LStep_lenM (T := Try.tab) rfl rfl rfl rfl | (refine LStep_add rfl rfl rfl rfl ?_; (refine IntWalk.i64_in _ ?_; first | omega | (simp only [cmps] at *; omega))) | refine LStep_wrap (T := Try.tab) rfl rfl | (refine LStep_pickF rfl rfl ?_ rfl rfl; assumption) | (refine LStep_indexM (T := Try.tab) (c := ?_) rfl rfl rfl rfl rfl rfl ?_; rotate_left; assumption))) | (with_reducible refine Es_nil ?_) | ((with_reducible refine Ed_nil ?_ ?_); kernel_rfl) | (with_reducible refine then_n ?_) | (with_reducible refine then_r ?_) | (with_reducible refine block_r ?_) | ((with_reducible refine gR ?_); first | refine ret1 rfl ?_ | refine ret2 rfl rfl ?_ | refine ret0 ?_ | refine end1 rfl ?_ | refine end0 ?_))
        all_goals first
          | rfl
          | trace_state
  · have : k = l.length := by omega
    subst this
    have g1 : ltb (l.length : Nat) (l.length : Nat) = false := by rw [ltb_f]; omega
    rw [List.take_length] at ha
    have hf : fewCl l = true := by unfold fewCl; rw [ha, decide_eq_true hk41]; rfl
    rw [hf]
    repeat' (first | ((with_reducible refine gA ?_); (first | refine AW_seq ?_ | refine AW_region ?_ | (refine AW_condN rfl ?_ ?_; assumption) | refine AW_ret ?_ | refine AW_exit ?_)) | ((with_reducible refine gS ?_); refine Es_s (T := Try.tab) rfl rfl rfl rfl ?_) | (((with_reducible refine gS ?_); apply Es_q); rfl; rfl; refine LStep_lenM (T := Try.tab) rfl rfl rfl rfl) | (with_reducible refine Es_nil ?_) | (with_reducible refine then_n ?_) | (with_reducible refine then_e ?_) | ((with_reducible refine block_e ?_ ?_); rfl) | ((with_reducible refine gR ?_); first | refine ret1 rfl ?_ | refine ret2 rfl rfl ?_ | refine ret0 ?_ | refine end1 rfl ?_ | refine end0 ?_))
    all_goals first
      | rfl
      | trace_state
end Go.Proofs.Ytldfncafkdmoiaa
