import Derived.Test.YtglkilmflohfoaaDoorQ2
namespace Go.Proofs.YtglkilmflohfoaaDoor
open Go.SL

/-! ### match.Diff -/
def lacks (b : List Post) (p : Post) : Bool := (firstP p.number b).isNone
def unlk (b : List Post) (p : Post) : Bool := match firstP p.number b with
  | some q => !likeB p q
  | none => false
def onlyL (a b : List Post) : List Post := (rowL a).filter (lacks b)
def unlikeN (a b : List Post) : List Int := ((rowL a).filter (unlk b)).map (·.number)
def sortI (l : List Int) : List Int := l.mergeSort fun x y => decide (x ≤ y)
set_option maxRecDepth 10000 in
theorem diff11_ac (b : List Post) (p : Post) : AC Tryd.prog 17 [.agg p.cs, .ptr 1001 0] (hM (byE (rowL b))) [1000, 1001] (fun r h' => r = .d (.sc (.bool (lacks b p))) ∧ Kp (hM (byE (rowL b))) h') := by
  have hf := byE_find p.number (rowL b)
  rw [rowL_first] at hf
  have hk := byE_keys (rowL b)
  unfold lacks
  refine AC_enter Tryd.func17 rfl Tryd.ntmps17 (rv := [.tmp 3]) rfl rfl (by simp) (fun w X G => ?_)
  cases hq : firstP p.number b with
  | none =>
    rw [hq] at hf
    repeat' (first | ((with_reducible refine gA ?_); (first | refine AW_seq ?_ | refine AW_region ?_ | refine AW_ret ?_)) | ((with_reducible refine gS ?_); refine Es_s (T := Tryd.tab) rfl rfl rfl rfl ?_) | (((with_reducible refine gS ?_); apply Es_q); rfl; rfl; (refine LStep_lookupNoZ (T := Tryd.tab) rfl rfl rfl rfl rfl rfl rfl rfl rfl rfl ?_ ?_; exact hk; exact hf)) | (refine Es_skip rfl ?_ rfl ?_; (first | rfl | (refine w_tf ?_; assumption) | (refine w_ft ?_; assumption))) | (((with_reducible refine gS ?_); apply Es_xs); rfl; rfl; (first | refine LStep_boxN rfl rfl rfl rfl rfl rfl | refine LStep_allocN (T := Tryd.tab) rfl rfl rfl rfl rfl rfl); rfl) | (((with_reducible refine gS ?_); apply Es_xn); rfl; rfl; (refine LStep_storeN (T := Tryd.tab) rfl rfl rfl rfl rfl rfl rfl ?_ rfl; (refine Nat.le_of_ble_eq_true ?_; rfl)); rfl) | (with_reducible refine Es_nil ?_) | (with_reducible refine then_n ?_) | ((with_reducible refine gR ?_); first | refine ret1 rfl ?_ | refine ret2 rfl rfl ?_ | refine ret0 ?_ | refine end1 rfl ?_ | refine end0 ?_))
    exact ⟨rfl, Kp.sub ⟨rfl, rfl, trivial⟩⟩
  | some q =>
    rw [hq] at hf
    repeat' (first | ((with_reducible refine gA ?_); (first | refine AW_seq ?_ | refine AW_region ?_ | refine AW_ret ?_)) | ((with_reducible refine gS ?_); refine Es_s (T := Tryd.tab) rfl rfl rfl rfl ?_) | (((with_reducible refine gS ?_); apply Es_q); rfl; rfl; (refine LStep_lookupOk (T := Tryd.tab) (c := .agg q.cs) rfl rfl rfl rfl rfl rfl rfl rfl ?_ ?_; exact hk; exact hf)) | (refine Es_skip rfl ?_ rfl ?_; (first | rfl | (refine w_tf ?_; assumption) | (refine w_ft ?_; assumption))) | (((with_reducible refine gS ?_); apply Es_xs); rfl; rfl; (first | refine LStep_boxN rfl rfl rfl rfl rfl rfl | refine LStep_allocN (T := Tryd.tab) rfl rfl rfl rfl rfl rfl); rfl) | (((with_reducible refine gS ?_); apply Es_xn); rfl; rfl; (refine LStep_storeN (T := Tryd.tab) rfl rfl rfl rfl rfl rfl rfl ?_ rfl; (refine Nat.le_of_ble_eq_true ?_; rfl)); rfl) | (with_reducible refine Es_nil ?_) | (with_reducible refine then_n ?_) | ((with_reducible refine gR ?_); first | refine ret1 rfl ?_ | refine ret2 rfl rfl ?_ | refine ret0 ?_ | refine end1 rfl ?_ | refine end0 ?_))
    exact ⟨rfl, Kp.sub ⟨rfl, rfl, trivial⟩⟩
theorem diff1_ac (es : List (Value × AV)) : AC Tryd.prog 16 [.mp 1000] [(1000, some (.map 3 29 es none))] [1000] (fun r h' => r = .fn 17 [.ptr 1 0] ∧ SubH [(1000, some (.map 3 29 es none)), (1, some (.cells [.mp 1000]))] h') := by
  refine AC_enter Tryd.func16 rfl Tryd.ntmps16 (rv := [.tmp 2]) rfl rfl (by simp) (fun w X G => ?_)
  repeat' (first | ((with_reducible refine gA ?_); (first | refine AW_seq ?_ | refine AW_region ?_ | refine AW_ret ?_)) | ((with_reducible refine gS ?_); refine Es_s (T := Tryd.tab) rfl rfl rfl rfl ?_) | (refine Es_skip rfl ?_ rfl ?_; (first | rfl | (refine w_tf ?_; assumption) | (refine w_ft ?_; assumption))) | (((with_reducible refine gS ?_); apply Es_xs); rfl; rfl; refine LStep_boxN rfl rfl rfl rfl rfl rfl; rfl) | (with_reducible refine Es_nil ?_) | (with_reducible refine then_n ?_) | ((with_reducible refine gR ?_); first | refine ret1 rfl ?_ | refine ret2 rfl rfl ?_ | refine ret0 ?_ | refine end1 rfl ?_ | refine end0 ?_))
  exact ⟨rfl, rfl, rfl, trivial⟩
theorem rowL_ents {l : List Post} (h : ∀ p ∈ l, p.entries.length ≤ 1048576) : ∀ p ∈ rowL l, p.entries.length ≤ 1048576 := fun p hp => h p (rowL_mem l hp)
def diffR (a b : List Post) : AV := .tup [.d (.sl 3 ((onlyL a b).map Post.enc)), .d (.sl 3 ((onlyL b a).map Post.enc)), .d (.sl 1 ((sortI (unlikeN a b)).map iE))]
set_option maxRecDepth 20000 in
set_option maxHeartbeats 4000000 in
theorem diff_ac (a b : List Post) (ha : a.length ≤ 1048576) (hb : b.length ≤ 1048576) (ea : ∀ p ∈ a, p.entries.length ≤ 1048576) (eb : ∀ p ∈ b, p.entries.length ≤ 1048576) :
    AC Tryd.prog 8 [.d (.sl 3 (a.map Post.enc)), .d (.sl 3 (b.map Post.enc))] [] [] (fun r _ => r = diffR a b) := by
  have cA := row_ac a ha
  have cB := row_ac b hb
  have cp1 := (pick_ac (byE (rowL b)) (rowL a) 17 (lacks b) (by have := rowL_len a; omega) (rowL_ents ea) (fun p _ => diff11_ac b p)).kp rfl
  have cp2 := (pick_ac (byE (rowL a)) (rowL b) 17 (lacks a) (by have := rowL_len b; omega) (rowL_ents eb) (fun p _ => diff11_ac a p)).kp rfl
  have d1 := diff1_ac (byE (rowL b))
  have d2 := diff1_ac (byE (rowL a))
  have hbf := fun n => byE_find n (rowL b)
  have hbk := byE_keys (rowL b)
  have hra := rowL_len a
  have hre := rowL_ents ea
  refine AC_enter Tryd.func8 rfl Tryd.ntmps8 (rv := [.tmp 4, .tmp 5, .tmp 6]) rfl rfl (by simp) (fun w X G => ?_)
  repeat' (first | ((with_reducible refine gA ?_); (first | refine AW_seq ?_ | refine AW_region ?_ | refine AW_block ?_)) | ((with_reducible refine gS ?_); refine Es_s (T := Tryd.tab) rfl rfl rfl rfl ?_) | (((with_reducible refine gS ?_); apply Es_xg); rfl; rfl; (first | refine LStep_callHN [] [(10, 18)] cA rfl rfl trivial rfl trivial rfl rfl | refine LStep_callHN [] [(10, 23)] cB rfl rfl trivial rfl trivial rfl rfl); rfl) | (((with_reducible refine gS ?_); apply Es_q); rfl; rfl; refine LStep_lenM (T := Tryd.tab) rfl rfl rfl rfl) | (with_reducible refine Es_nil ?_) | (with_reducible refine then_n ?_))
  clear cA cB
  refine AW_openNil (t := 6) (id := 2000) (e := 3) (sz := 1) rfl rfl rfl rfl ?_
  refine AW_forE (S := Nat) (fun k => k ≤ (rowL a).length) (fun k => [(28, .d (.sc (.int .i64 (k : Nat)))), (6, .own 2000 (((((rowL a).take k).filter (unlk b)).map (·.number)).map iE).length)]) (fun k => [(2000, some (.arr 3 1 (((((rowL a).take k).filter (unlk b)).map (·.number)).map iE)))]) (fun k => (rowL a).length - k) 0 (by omega) (by (repeat' (first | exact trivial | exact rfl | (refine ⟨Or.inl rfl, ?_⟩) | (refine ⟨Or.inr rfl, ?_⟩) | (refine ⟨Or.inr trivial, ?_⟩) | (refine ⟨rfl, ?_⟩) | (refine ⟨?_, ?_⟩)))) (by (repeat' (first | exact trivial | exact rfl | (refine ⟨Or.inl rfl, ?_⟩) | (refine ⟨Or.inr rfl, ?_⟩) | (refine ⟨Or.inr trivial, ?_⟩) | (refine ⟨rfl, ?_⟩) | (refine ⟨?_, ?_⟩)))) ?_
  intro k hk
  by_cases hlt : k < (rowL a).length
  · obtain ⟨p, hp, _⟩ := drop_at hlt
    have ht := filter_snoc (q := unlk b) hp
    have hln := filter_le (q := unlk b) (rowL a) k
    have hf := hbf p.number
    rw [rowL_first] at hf
    have hpe := hre p (List.mem_of_getElem? hp)
    clear cp1 cp2 d1 d2 hbf
    cases hq : firstP p.number b with
    | none =>
      have hu : unlk b p = false := by unfold unlk; rw [hq]
      rw [hu, if_neg (by simp), List.append_nil] at ht
      rw [hq] at hf
      repeat' (first | ((with_reducible refine gA ?_); (first | refine AW_seq ?_ | refine AW_region ?_ | refine AW_condF rfl ?_ | (refine AW_cond rfl (fun hc => ?_) (fun hc => ?_) <;> try (exfalso; simp only [cmpL] at hc; omega)) | refine AW_block ?_ | refine AW_skip ?_)) | ((with_reducible refine gS ?_); refine Es_s (T := Tryd.tab) rfl rfl rfl rfl ?_) | (((with_reducible refine gS ?_); apply Es_q); rfl; rfl; (refine LStep_lookupNoZ (T := Tryd.tab) rfl rfl rfl rfl rfl rfl rfl rfl rfl rfl ?_ ?_; exact hbk; exact hf)) | (((with_reducible refine gS ?_); apply Es_q); rfl; rfl; (first | (refine LStep_add rfl rfl rfl rfl ?_; (refine IntWalk.i64_in _ ?_; first | omega | (simp only [cmps] at *; omega))) | (refine LStep_indexM (T := Tryd.tab) (c := ?_) rfl rfl rfl rfl rfl rfl ?_; rotate_left; assumption))) | (refine Es_skip rfl ?_ rfl ?_; (first | rfl | (refine w_tf ?_; assumption) | (refine w_ft ?_; assumption))) | (((with_reducible refine gS ?_); apply Es_xs); rfl; rfl; refine LStep_allocN (T := Tryd.tab) rfl rfl rfl rfl rfl rfl; rfl) | (((with_reducible refine gS ?_); apply Es_xn); rfl; rfl; (refine LStep_storeN (T := Tryd.tab) rfl rfl rfl rfl rfl rfl rfl ?_ rfl; (refine Nat.le_of_ble_eq_true ?_; rfl)); rfl) | (with_reducible refine Es_nil ?_) | (with_reducible refine then_n ?_) | (with_reducible refine block_n ?_))
      refine ⟨k + 1, by omega, by omega, ?_, by (repeat' (first | exact trivial | exact rfl | (refine ⟨Or.inl rfl, ?_⟩) | (refine ⟨Or.inr rfl, ?_⟩) | (refine ⟨Or.inr trivial, ?_⟩) | (refine ⟨rfl, ?_⟩) | (refine ⟨?_, ?_⟩))), ?_, by (repeat' (first | exact trivial | exact rfl | (refine ⟨Or.inl rfl, ?_⟩) | (refine ⟨Or.inr rfl, ?_⟩) | (refine ⟨Or.inr trivial, ?_⟩) | (refine ⟨rfl, ?_⟩) | (refine ⟨?_, ?_⟩)))⟩
      all_goals (rw [ht]; (repeat' (first | exact trivial | exact rfl | (refine ⟨Or.inl rfl, ?_⟩) | (refine ⟨Or.inr rfl, ?_⟩) | (refine ⟨Or.inr trivial, ?_⟩) | (refine ⟨rfl, ?_⟩) | (refine ⟨?_, ?_⟩))))
    | some q =>
      have hu : unlk b p = !likeB p q := by unfold unlk; rw [hq]
      rw [hq, Option.map_some] at hf
      have cl := like_ac p q (by omega)
      repeat' (first | ((with_reducible refine gA ?_); (first | refine AW_seq ?_ | refine AW_region ?_ | (refine AW_cond rfl (fun hc => ?_) (fun hc => ?_) <;> try (exfalso; simp only [cmpL] at hc; omega)) | refine AW_block ?_ | refine AW_skip ?_)) | ((with_reducible refine gS ?_); refine Es_s (T := Tryd.tab) rfl rfl rfl rfl ?_) | (((with_reducible refine gS ?_); apply Es_q); rfl; rfl; (first | (refine LStep_lookupOk (T := Tryd.tab) (c := .agg q.cs) rfl rfl rfl rfl rfl rfl rfl rfl ?_ ?_; exact hbk; exact hf) | refine LStep_call (cl) rfl rfl rfl rfl)) | (((with_reducible refine gS ?_); apply Es_xs); rfl; rfl; (refine LStep_append (T := Tryd.tab) rfl rfl rfl rfl rfl rfl rfl rfl rfl rfl ?_ ?_ ?_; rfl; (simp only [List.length_map, List.length_cons, List.length_nil]; omega); (unfold maxLen; simp only [List.length_map, List.length_cons, List.length_nil]; omega)); rfl) | (((with_reducible refine gS ?_); apply Es_q); rfl; rfl; (first | refine LStep_simp (T := Tryd.tab) rfl rfl | (refine LStep_add rfl rfl rfl rfl ?_; (refine IntWalk.i64_in _ ?_; first | omega | (simp only [cmps] at *; omega))) | (refine LStep_indexM (T := Tryd.tab) (c := ?_) rfl rfl rfl rfl rfl rfl ?_; rotate_left; assumption) | (refine LStep_lit (T := Tryd.tab) rfl rfl rfl rfl rfl rfl rfl rfl ?_; (refine Nat.le_of_ble_eq_true ?_; rfl)))) | (refine Es_skip rfl ?_ rfl ?_; (first | rfl | (refine w_tf ?_; assumption) | (refine w_ft ?_; assumption))) | (((with_reducible refine gS ?_); apply Es_xs); rfl; rfl; refine LStep_allocN (T := Tryd.tab) rfl rfl rfl rfl rfl rfl; rfl) | (((with_reducible refine gS ?_); apply Es_xn); rfl; rfl; (refine LStep_storeN (T := Tryd.tab) rfl rfl rfl rfl rfl rfl rfl ?_ rfl; (refine Nat.le_of_ble_eq_true ?_; rfl)); rfl) | (with_reducible refine Es_nil ?_) | (with_reducible refine then_n ?_) | (with_reducible refine block_n ?_))
      all_goals simp only [cmps] at *
      · have h : likeB p q = false := by assumption
        rw [hu, h, if_pos (show (!false) = true from rfl)] at ht
        refine ⟨k + 1, by omega, by omega, ?_, by (repeat' (first | exact trivial | exact rfl | (refine ⟨Or.inl rfl, ?_⟩) | (refine ⟨Or.inr rfl, ?_⟩) | (refine ⟨Or.inr trivial, ?_⟩) | (refine ⟨rfl, ?_⟩) | (refine ⟨?_, ?_⟩))), ?_, by (repeat' (first | exact trivial | exact rfl | (refine ⟨Or.inl rfl, ?_⟩) | (refine ⟨Or.inr rfl, ?_⟩) | (refine ⟨Or.inr trivial, ?_⟩) | (refine ⟨rfl, ?_⟩) | (refine ⟨?_, ?_⟩)))⟩
        all_goals (rw [ht, List.map_append, List.map_append]; (repeat' (first | exact trivial | exact rfl | (refine ⟨Or.inl rfl, ?_⟩) | (refine ⟨Or.inr rfl, ?_⟩) | (refine ⟨Or.inr trivial, ?_⟩) | (refine ⟨rfl, ?_⟩) | (refine ⟨?_, ?_⟩))))
      · have h : likeB p q = true := by assumption
        rw [hu, h, if_neg (by simp), List.append_nil] at ht
        refine ⟨k + 1, by omega, by omega, ?_, by (repeat' (first | exact trivial | exact rfl | (refine ⟨Or.inl rfl, ?_⟩) | (refine ⟨Or.inr rfl, ?_⟩) | (refine ⟨Or.inr trivial, ?_⟩) | (refine ⟨rfl, ?_⟩) | (refine ⟨?_, ?_⟩))), ?_, by (repeat' (first | exact trivial | exact rfl | (refine ⟨Or.inl rfl, ?_⟩) | (refine ⟨Or.inr rfl, ?_⟩) | (refine ⟨Or.inr trivial, ?_⟩) | (refine ⟨rfl, ?_⟩) | (refine ⟨?_, ?_⟩)))⟩
        all_goals (rw [ht]; (repeat' (first | exact trivial | exact rfl | (refine ⟨Or.inl rfl, ?_⟩) | (refine ⟨Or.inr rfl, ?_⟩) | (refine ⟨Or.inr trivial, ?_⟩) | (refine ⟨rfl, ?_⟩) | (refine ⟨?_, ?_⟩))))
  · have : k = (rowL a).length := by omega
    subst this
    rw [List.take_length]
    have hul : (unlikeN a b).length ≤ a.length := by
      unfold unlikeN
      rw [List.length_map]
      have := List.length_filter_le (unlk b) (rowL a)
      omega
    have cs : AC Tryd.prog 19 _ _ _ _ := sortInts_ac Tryd.sortInts (callable_of Tryd.func19 rfl rfl) 3 ((unlikeN a b).map iE).length (unlikeN a b) (List.length_map _) (by omega)
    have hll : ((unlikeN a b).map iN).length = (((unlikeN a b).mergeSort fun x y => decide (x ≤ y)).map iN).length := by simp
    have hfz : ((sortI (unlikeN a b)).map iE).length = ((unlikeN a b).map iE).length := by unfold sortI; simp
    change AW _ _ _ _ ([(28, AV.d (D.sc (Value.int IntKind.i64 ((rowL a).length : Nat)))), (6, AV.own 2000 ((unlikeN a b).map iE).length)] ++ _) ([(2000, some (AObj.arr 3 1 ((unlikeN a b).map iE)))] ++ _)
    repeat' (first | ((with_reducible refine gRc ?_); refine AW_freeze [6] (id := 2000) ⟨rfl, trivial⟩ rfl hfz ?_) | ((with_reducible refine gR ?_); refine ret3 rfl rfl rfl ?_) | ((with_reducible refine gA ?_); (first | refine AW_seq ?_ | refine AW_region ?_ | (refine AW_cond rfl (fun hc => ?_) (fun hc => ?_) <;> try (exfalso; simp only [cmpL] at hc; omega)) | refine AW_ret ?_ | refine AW_exit ?_)) | ((with_reducible refine gS ?_); refine Es_s (T := Tryd.tab) rfl rfl rfl rfl ?_) | (((with_reducible refine gS ?_); apply Es_xg); rfl; rfl; (first | refine LStep_callHN [(1000, 2000)] [] cs rfl rfl ⟨rfl, trivial⟩ rfl ⟨hll, trivial⟩ rfl rfl | refine LStep_callHN [(1000, 23)] [(1, 57)] d1 rfl rfl ⟨rfl, trivial⟩ rfl ⟨trivial, trivial⟩ rfl rfl | refine LStep_callHN [(1000, 18)] [(1, 62)] d2 rfl rfl ⟨rfl, trivial⟩ rfl ⟨trivial, trivial⟩ rfl rfl | refine LStep_callHN [(1000, 23), (1001, 57)] [] cp1 rfl rfl ⟨rfl, rfl, trivial⟩ rfl ⟨trivial, trivial, trivial⟩ rfl rfl | refine LStep_callHN [(1000, 18), (1001, 62)] [] cp2 rfl rfl ⟨rfl, rfl, trivial⟩ rfl ⟨trivial, trivial, trivial⟩ rfl rfl); rfl) | (with_reducible refine Es_nil ?_) | (with_reducible refine then_n ?_) | (with_reducible refine then_e ?_) | ((with_reducible refine block_e ?_ ?_); rfl))
    rfl
end Go.Proofs.YtglkilmflohfoaaDoor
