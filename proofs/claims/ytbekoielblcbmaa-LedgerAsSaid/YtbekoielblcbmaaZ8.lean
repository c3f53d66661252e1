import Derived.Test.YtbekoielblcbmaaZ7
import Derived.Test.YtbekoielblcbmaaTa
namespace Go.Proofs.Ytbekoielblcbmaa
open Go.SL
/-! ### LedgerPlays -/
theorem doS_sizes (s : Led) (x : Act) : (doS s x).A.length ≤ s.A.length + 1 ∧ (doS s x).P.length ≤ s.P.length + 1 ∧ (doS s x).H.length ≤ s.H.length + 1 := by
  have hl : ∀ (t : Led) (d : Hld) (m : Int), aget d.key t.A ≠ none → (lessS t d m).A.length ≤ t.A.length + 1 ∧ (lessS t d m).P = t.P ∧ (lessS t d m).H.length ≤ t.H.length + 1 := fun t d m _ => by
    refine ⟨aput_len _ _ _, rfl, ?_⟩
    show (if d.amt - m = 0 then adel d.id t.H else aput d.id ⟨d.id, d.acct, d.cur, d.amt - m⟩ t.H).length ≤ _
    split
    · have := adel_len d.id t.H; omega
    · exact aput_len _ _ _
  have hl' : ∀ (t : Led) (d : Hld) (m : Int), (lessS t d m).A.length ≤ t.A.length + 1 ∧ (lessS t d m).P = t.P ∧ (lessS t d m).H.length ≤ t.H.length + 1 := fun t d m => by
    refine ⟨aput_len _ _ _, rfl, ?_⟩
    show (if d.amt - m = 0 then adel d.id t.H else aput d.id ⟨d.id, d.acct, d.cur, d.amt - m⟩ t.H).length ≤ _
    split
    · have := adel_len d.id t.H; omega
    · exact aput_len _ _ _
  have he : ∀ (t : Led) (b : ByteArray) (l : List Ent), (enterS t b l).A.length = t.A.length ∧ (enterS t b l).P.length = t.P.length + 1 ∧ (enterS t b l).H = t.H := fun t b l => ⟨by simp [enterS, enterA], by simp [enterS], rfl⟩
  unfold doS
  split
  · unfold openS
    split
    · exact ⟨by simp, by simp, by simp⟩
    split
    · exact ⟨by simp, by simp, by simp⟩
    split
    · exact ⟨by simp, by simp, by simp⟩
    split
    · exact ⟨by simp, by simp, by simp⟩
    exact ⟨aput_len _ _ _, by simp, by simp⟩
  split
  · split
    · obtain ⟨h1, h2, h3⟩ := he s x.a x.l
      exact ⟨by omega, by omega, by rw [h3]; omega⟩
    · exact ⟨by simp, by simp, by simp⟩
  split
  · unfold holdS
    split
    · exact ⟨aput_len _ _ _, by simp, aput_len _ _ _⟩
    · exact ⟨by simp, by simp, by simp⟩
  split
  · split
    · unfold takeS
      cases hq : aget x.a s.H with
      | none => exact ⟨by simp, by simp, by simp⟩
      | some d =>
        obtain ⟨h1, h2, h3⟩ := he (lessS s d x.n) (takeT x.a) (takeX d x.b x.n)
        obtain ⟨g1, g2, g3⟩ := hl' s d x.n
        exact ⟨by simp only; omega, by simp only; rw [h2, g2]; omega, by simp only; rw [h3]; exact g3⟩
    · exact ⟨by simp, by simp, by simp⟩
  · unfold letS
    cases hq : aget x.a s.H with
    | none => exact ⟨by simp, by simp, by simp⟩
    | some d =>
      obtain ⟨g1, g2, g3⟩ := hl' s d d.amt
      exact ⟨g1, by simp only; rw [g2]; omega, g3⟩
theorem playS_sizes (l : List Act) : (playS Led0 l).A.length ≤ l.length ∧ (playS Led0 l).P.length ≤ l.length ∧ (playS Led0 l).H.length ≤ l.length := by
  induction l using list_snoc with
  | h0 => exact ⟨Nat.le_refl _, Nat.le_refl _, Nat.le_refl _⟩
  | h1 l x ih =>
    rw [playS_snoc, List.length_append, List.length_singleton]
    obtain ⟨h1, h2, h3⟩ := doS_sizes (playS Led0 l) x
    exact ⟨by omega, by omega, by omega⟩
theorem enterS_num {s : Led} (h : s.Num) (t : ByteArray) (x : List Ent) : (enterS s t x).Num := by
  intro j p hp
  have hp : (s.P ++ [⟨(s.P.length : Int) + 1, t, x⟩])[j]? = some p := hp
  rcases Nat.lt_trichotomy j s.P.length with h1 | h1 | h1
  · rw [List.getElem?_append_left h1] at hp
    exact h j p hp
  · rw [List.getElem?_append_right (by omega), h1, Nat.sub_self] at hp
    simp only [List.getElem?_cons_zero, Option.some.injEq] at hp
    rw [← hp, h1]
  · rw [List.getElem?_append_right (by omega), List.getElem?_eq_none (by simp only [List.length_singleton]; omega)] at hp
    cases hp
theorem num_P {s t : Led} (h : s.Num) (e : t.P = s.P) : t.Num := by
  intro j p hp
  rw [e] at hp
  exact h j p hp
theorem doS_num {s : Led} (h : s.Num) (x : Act) : (doS s x).Num := by
  by_cases hg : grows s x
  · rcases hg with ⟨e, hq⟩ | ⟨e, hq⟩
    · rw [doS, if_neg (by rw [e]; decide), if_pos e, if_pos hq]
      exact enterS_num h _ _
    · rw [doS, if_neg (by rw [e]; decide), if_neg (by rw [e]; decide), if_neg (by rw [e]; decide), if_pos e, if_pos hq]
      obtain ⟨d, a, q1, _⟩ := takeE_ok hq
      unfold takeS
      rw [q1]
      exact enterS_num (num_P h (t := lessS s d x.n) rfl) _ _
  · exact num_P h (doS_P hg)
theorem Led0_num : Led0.Num := fun j p hp => by simp [Led0] at hp
theorem playS_num {s : Led} (h : s.Num) (l : List Act) : (playS s l).Num := by
  unfold playS
  induction l generalizing s with
  | nil => exact h
  | cons x l ih => exact ih (doS_num h x)
theorem Led0_doc : DocH Led0 [] := ⟨List.Perm.refl _, fun p hp => by simp [Led0] at hp⟩
theorem few_more2 {l : List Act} (h : fewL l = true) : l.length ≤ 40 ∧ ∀ x ∈ l, x.a.size ≤ 60 := by
  unfold fewL at h
  rw [Bool.and_eq_true, decide_eq_true_eq, List.all_eq_true] at h
  refine ⟨h.2, fun x hx => ?_⟩
  have := h.1 x hx
  unfold fewA at this
  rw [decide_eq_true_eq] at this
  exact this.1
theorem no_P2 {s : Led} {x : Act} (hg : ¬ grows s x) : (s.P.map Post.enc).length = ((doS s x).P.map Post.enc).length := by rw [doS_P hg]
theorem few_len {l : List Act} (h : fewL l = true) : ∀ x ∈ l, x.l.length ≤ 70 := by
  unfold fewL at h
  rw [Bool.and_eq_true, decide_eq_true_eq, List.all_eq_true] at h
  intro x hx
  have := h.1 x hx
  unfold fewA at this
  rw [decide_eq_true_eq] at this
  exact this.2
set_option maxRecDepth 20000 in
set_option maxHeartbeats 8000000 in
theorem plays_ac (l : List Act) (hl : l.length ≤ 140737488351232) (hk : ∀ x ∈ l, 0 ≤ x.kind) : AC Try.prog 5 [.d (.sl 6 (l.map Act.enc))] [] [] (fun r _ => r = .d (.sc (.bool true))) := by
  have cf := few_ac l hl
  cases hfew : fewL l with
  | false =>
    rw [hfew] at cf
    refine AC_enter Try.func5 rfl Try.ntmps5 (rv := [.tmp 2]) rfl rfl (by simp) (fun w X G => ?_)
    repeat' (first | ((with_reducible refine gA ?_); (first | refine AW_seq ?_ | refine AW_region ?_ | refine AW_condT rfl ?_ | refine AW_ret ?_)) | ((with_reducible refine gS ?_); refine Es_s (T := Try.tab) rfl rfl rfl rfl ?_) | (((with_reducible refine gS ?_); apply Es_q); rfl; rfl; (first | refine LStep_call (awake_ac) rfl rfl rfl rfl | refine LStep_call (cf) rfl rfl rfl rfl)) | (((with_reducible refine gS ?_); apply Es_q); rfl; rfl; refine LStep_simp (T := Try.tab) rfl rfl) | (with_reducible refine Es_nil ?_) | (with_reducible refine then_n ?_) | (with_reducible refine then_r ?_) | ((with_reducible refine gR ?_); first | refine ret1 rfl ?_ | refine ret2 rfl rfl ?_ | refine ret0 ?_ | refine end1 rfl ?_ | refine end0 ?_))
    rfl
  | true =>
  rw [hfew] at cf
  obtain ⟨l1, l2⟩ := few_more2 hfew
  have l3 := few_len hfew
  have cn := ledgerNew_ac ⟨#[107]⟩
  have c0 := same_ac Led0 Led0 [] Led0_ok (Led.Eqv.refl _) Led0_doc (fun p hp => by simp [Led0] at hp) (fun p hp => by simp [Led0] at hp) Led0_num
  refine AC_enter Try.func5 rfl Try.ntmps5 (rv := [.tmp 2]) rfl rfl (by simp) (fun w X G => ?_)
  repeat' (first | ((with_reducible refine gA ?_); (first | refine AW_seq ?_ | refine AW_region ?_ | refine AW_condF rfl ?_ | refine AW_block ?_ | refine AW_skip ?_)) | (((with_reducible refine gS ?_); apply Es_q); rfl; rfl; refine LStep_buildC (T := Try.tab) (out' := [.d (.sl 4 []), .d (.sl 3 []), .d (.sl 4 [])]) rfl rfl rfl rfl rfl rfl ⟨.nil 4, .nil 3, .nil 4, trivial⟩) | ((with_reducible refine gS ?_); refine Es_s (T := Try.tab) rfl rfl rfl rfl ?_) | (((with_reducible refine gS ?_); apply Es_q); rfl; rfl; (first | refine LStep_call (awake_ac) rfl rfl rfl rfl | refine LStep_call (cf) rfl rfl rfl rfl | refine lstep_eqNilP (T := Try.tab) rfl rfl rfl rfl)) | (((with_reducible refine gS ?_); apply Es_xg); rfl; rfl; (first | refine LStep_callHN [] [(6, 21), (3, 2101), (2000, 2102), (4, 2103)] cn rfl rfl trivial rfl trivial rfl rfl | refine LStep_callHN [(1000, 21), (1001, 2101), (1002, 2102), (1003, 2103)] [] c0 rfl rfl ⟨rfl, rfl, rfl, rfl, trivial⟩ rfl ⟨trivial, trivial, rfl, trivial, trivial⟩ rfl rfl); rfl) | (((with_reducible refine gS ?_); apply Es_q); rfl; rfl; (first | refine LStep_simp (T := Try.tab) rfl rfl | refine LStep_lenM (T := Try.tab) rfl rfl rfl rfl)) | (refine Es_skip rfl ?_ rfl ?_; (first | rfl | (refine w_tf ?_; assumption) | (refine w_ft ?_; assumption))) | (((with_reducible refine gS ?_); apply Es_xs); rfl; rfl; refine LStep_allocN (T := Try.tab) rfl rfl rfl rfl rfl rfl; rfl) | (((with_reducible refine gS ?_); apply Es_xn); rfl; rfl; (refine LStep_storeN (T := Try.tab) rfl rfl rfl rfl rfl rfl rfl ?_ rfl; (refine Nat.le_of_ble_eq_true ?_; rfl)); rfl) | (with_reducible refine Es_nil ?_) | (with_reducible refine then_n ?_))
  clear c0 cn cf
  refine AW_forE (S := Nat × List Hld) (fun t => t.1 ≤ l.length ∧ DocH (playS Led0 (l.take t.1)) t.2) (fun t => [(33, .d (.sc (.int .i64 (t.1 : Nat))))]) (fun t => hLn 21 2101 2102 2103 (playS Led0 (l.take t.1)) ++ ([(4, some (AObj.cells [AV.d (.sl 4 ((playS Led0 (l.take t.1)).A.map daE)), AV.d (.sl 3 ((playS Led0 (l.take t.1)).P.map Post.enc)), AV.d (.sl 4 (t.2.map Hld.enc))]))] : Hp)) (fun t => l.length - t.1) (0, []) ⟨by simp, Led0_doc⟩ (by (repeat' (first | exact trivial | exact rfl | (refine ⟨Or.inl rfl, ?_⟩) | (refine ⟨Or.inr rfl, ?_⟩) | (refine ⟨Or.inr trivial, ?_⟩) | (refine ⟨rfl, ?_⟩) | (refine ⟨?_, ?_⟩)))) ⟨rfl, rfl, rfl, rfl, rfl, trivial⟩ ?_
  intro ⟨k, H⟩ ⟨hkl, hd⟩
  dsimp only at hkl hd ⊢
  by_cases hlt : k < l.length
  · obtain ⟨x, hx, _⟩ := drop_at hlt
    have hxm := List.mem_of_getElem? hx
    have hx1 := l2 x hxm
    have hx2 := l3 x hxm
    have hxk := hk x hxm
    have o1 := playS_ok Led0_ok (l.take k)
    have o2 := playS_inv Led0_ok Led0_inv (l.take k)
    have o3 := playS_good Led0_good Led0_ok (l.take (k + 1))
    have o4 := playS_num Led0_num (l.take (k + 1))
    have o5 := playS_ok Led0_ok (l.take (k + 1))
    have o6 := playS_inv Led0_ok Led0_inv (l.take (k + 1))
    obtain ⟨z1, z2, z3⟩ := playS_sizes (l.take k)
    rw [List.length_take] at z1 z2 z3
    have t1 : playS Led0 (l.take (k + 1)) = doS (playS Led0 (l.take k)) x := by rw [take_at hx, playS_snoc]
    rw [t1] at o3 o4 o5 o6
    generalize playS Led0 (l.take k) = s at hd o1 o2 o3 o4 o5 o6 t1 z1 z2 z3 ⊢
    obtain ⟨H', hd', cw⟩ := want_ac s H x o1 o2 hd hxk (by omega) (by omega) (by omega) (by omega) (by omega)
    have cs := same_ac (doS s x) (doS s x) H' o5 (Led.Eqv.refl _) hd' (fun p hp => doc_held hd' o5 o6 hp) (fun p hp => by have := (o3 p hp).1; omega) o4
    have ce := rsameE_ac x.l x.l (by omega)
    rw [eleq_iff.2 rfl] at ce
    by_cases hg : grows s x
    · have cd := doOk_ac s x o1 hxk (by omega) hg
      have hP := doS_grows hg
      generalize doN s x = n at cw cd
      generalize doE s x = e at cw cd
      repeat' (first | ((with_reducible refine gA ?_); (first | refine AW_seq ?_ | refine AW_region ?_ | refine AW_condT rfl ?_ | refine AW_condF rfl ?_ | (refine AW_cond rfl (fun hc => ?_) (fun hc => ?_) <;> try (exfalso; simp only [cmpL] at hc; omega)) | refine AW_block ?_ | refine AW_ret ?_ | refine AW_skip ?_)) | ((with_reducible refine gS ?_); refine Es_s (T := Try.tab) rfl rfl rfl rfl ?_) | (((with_reducible refine gS ?_); apply Es_q); rfl; (first | rfl | (refine w_ff ?_; assumption)); (first | refine LStep_call (cw) rfl rfl rfl rfl | refine LStep_call (ce) rfl rfl rfl rfl)) | (((with_reducible refine gS ?_); apply Es_xs); rfl; (first | rfl | (refine w_ff ?_; assumption)); (first | (refine LStep_litOwn (T := Try.tab) (len := 0) rfl rfl rfl rfl rfl rfl rfl rfl rfl rfl ?_ ?_; (refine Nat.le_of_ble_eq_true ?_; rfl); (unfold maxLen; omega)) | (refine LStep_appendD (T := Try.tab) 37 rfl rfl rfl rfl rfl rfl rfl rfl rfl rfl rfl ?_ ?_ ?_; rfl; (simp only [List.length_map, List.length_nil]; omega); (unfold maxLen; simp only [List.length_map, List.length_nil]; omega))); rfl) | (((with_reducible refine gS ?_); apply Es_xg); rfl; (first | rfl | (refine w_ff ?_; assumption)); (first | refine LStep_callGN [1002] [(1000, 21), (1001, 2101), (1002, 2102), (1003, 2103)] [] cd rfl rfl ⟨rfl, rfl, rfl, rfl, trivial⟩ rfl ⟨trivial, trivial, hP, trivial, trivial⟩ rfl rfl | refine LStep_callHN [(1000, 21), (1001, 2101), (1002, 2102), (1003, 2103)] [] cs rfl rfl ⟨rfl, rfl, rfl, rfl, trivial⟩ rfl ⟨trivial, trivial, rfl, trivial, trivial⟩ rfl rfl); rfl) | (((with_reducible refine gS ?_); apply Es_q); rfl; (first | rfl | (refine w_ff ?_; assumption)); (first | refine LStep_simp (T := Try.tab) rfl rfl | (refine LStep_add rfl rfl rfl rfl ?_; (refine IntWalk.i64_in _ ?_; first | omega | (simp only [cmps] at *; omega))) | (refine LStep_pickT rfl rfl ?_ rfl rfl; assumption) | (refine LStep_pickF rfl rfl ?_ rfl rfl; assumption) | (refine LStep_indexM (T := Try.tab) (c := ?_) rfl rfl rfl rfl rfl rfl ?_; rotate_left; assumption) | refine LStep_buildN (T := Try.tab) rfl rfl rfl rfl rfl rfl rfl)) | (refine Es_skip rfl ?_ rfl ?_; (first | rfl | (refine w_tf ?_; assumption) | (refine w_ft ?_; assumption))) | (((with_reducible refine gS ?_); apply Es_xs); rfl; rfl; refine LStep_allocN (T := Try.tab) rfl rfl rfl rfl rfl rfl; rfl) | (((with_reducible refine gS ?_); apply Es_xn); rfl; rfl; (refine LStep_storeN (T := Try.tab) rfl rfl rfl rfl rfl rfl rfl ?_ rfl; (refine Nat.le_of_ble_eq_true ?_; rfl)); rfl) | (refine Es_split rfl ?_ (fun _ => ?_) (fun _ => ?_); ((fail_if_success (refine und_t ?_; assumption)); (fail_if_success (refine und_f ?_; assumption)); exact trivial)) | (with_reducible refine Es_nil ?_) | (with_reducible refine then_n ?_) | (with_reducible refine then_r ?_) | (with_reducible refine block_n ?_) | (with_reducible refine block_r ?_) | ((with_reducible refine gR ?_); first | refine ret1 rfl ?_ | refine ret2 rfl rfl ?_ | refine ret0 ?_ | refine end1 rfl ?_ | refine end0 ?_))
      all_goals simp only [cmps] at *
      all_goals first
        | (exfalso; omega)
        | (exfalso; simp at *; done)
        | (refine ⟨(k + 1, H'), ⟨by dsimp only; omega, by dsimp only; rw [t1]; exact hd'⟩, by dsimp only; omega, by (repeat' (first | exact trivial | exact rfl | (refine ⟨Or.inl rfl, ?_⟩) | (refine ⟨Or.inr rfl, ?_⟩) | (refine ⟨Or.inr trivial, ?_⟩) | (refine ⟨rfl, ?_⟩) | (refine ⟨?_, ?_⟩))), by (repeat' (first | exact trivial | exact rfl | (refine ⟨Or.inl rfl, ?_⟩) | (refine ⟨Or.inr rfl, ?_⟩) | (refine ⟨Or.inr trivial, ?_⟩) | (refine ⟨rfl, ?_⟩) | (refine ⟨?_, ?_⟩))), ?_, by (repeat' (first | exact trivial | exact rfl | (refine ⟨Or.inl rfl, ?_⟩) | (refine ⟨Or.inr rfl, ?_⟩) | (refine ⟨Or.inr trivial, ?_⟩) | (refine ⟨rfl, ?_⟩) | (refine ⟨?_, ?_⟩)))⟩; dsimp only; rw [t1]; exact ⟨rfl, rfl, rfl, rfl, rfl, trivial⟩)
        | trace_state
    · have cd := doNo_ac s x o1 hxk hg
      have hP := no_P2 hg
      generalize doN s x = n at cw cd
      generalize doE s x = e at cw cd
      repeat' (first | ((with_reducible refine gA ?_); (first | refine AW_seq ?_ | refine AW_region ?_ | refine AW_condT rfl ?_ | refine AW_condF rfl ?_ | (refine AW_cond rfl (fun hc => ?_) (fun hc => ?_) <;> try (exfalso; simp only [cmpL] at hc; omega)) | refine AW_block ?_ | refine AW_ret ?_ | refine AW_skip ?_)) | ((with_reducible refine gS ?_); refine Es_s (T := Try.tab) rfl rfl rfl rfl ?_) | (((with_reducible refine gS ?_); apply Es_q); rfl; (first | rfl | (refine w_ff ?_; assumption)); (first | refine LStep_call (cw) rfl rfl rfl rfl | refine LStep_call (ce) rfl rfl rfl rfl)) | (((with_reducible refine gS ?_); apply Es_xs); rfl; (first | rfl | (refine w_ff ?_; assumption)); (first | (refine LStep_litOwn (T := Try.tab) (len := 0) rfl rfl rfl rfl rfl rfl rfl rfl rfl rfl ?_ ?_; (refine Nat.le_of_ble_eq_true ?_; rfl); (unfold maxLen; omega)) | (refine LStep_appendD (T := Try.tab) 37 rfl rfl rfl rfl rfl rfl rfl rfl rfl rfl rfl ?_ ?_ ?_; rfl; (simp only [List.length_map, List.length_nil]; omega); (unfold maxLen; simp only [List.length_map, List.length_nil]; omega))); rfl) | (((with_reducible refine gS ?_); apply Es_xg); rfl; (first | rfl | (refine w_ff ?_; assumption)); (first | refine LStep_callHN [(1000, 21), (1001, 2101), (1002, 2102), (1003, 2103)] [] cd rfl rfl ⟨rfl, rfl, rfl, rfl, trivial⟩ rfl ⟨trivial, trivial, hP, trivial, trivial⟩ rfl rfl | refine LStep_callHN [(1000, 21), (1001, 2101), (1002, 2102), (1003, 2103)] [] cs rfl rfl ⟨rfl, rfl, rfl, rfl, trivial⟩ rfl ⟨trivial, trivial, rfl, trivial, trivial⟩ rfl rfl); rfl) | (((with_reducible refine gS ?_); apply Es_q); rfl; (first | rfl | (refine w_ff ?_; assumption)); (first | refine LStep_simp (T := Try.tab) rfl rfl | (refine LStep_add rfl rfl rfl rfl ?_; (refine IntWalk.i64_in _ ?_; first | omega | (simp only [cmps] at *; omega))) | (refine LStep_pickT rfl rfl ?_ rfl rfl; assumption) | (refine LStep_pickF rfl rfl ?_ rfl rfl; assumption) | (refine LStep_indexM (T := Try.tab) (c := ?_) rfl rfl rfl rfl rfl rfl ?_; rotate_left; assumption) | refine LStep_buildN (T := Try.tab) rfl rfl rfl rfl rfl rfl rfl)) | (refine Es_skip rfl ?_ rfl ?_; (first | rfl | (refine w_tf ?_; assumption) | (refine w_ft ?_; assumption))) | (((with_reducible refine gS ?_); apply Es_xs); rfl; rfl; refine LStep_allocN (T := Try.tab) rfl rfl rfl rfl rfl rfl; rfl) | (((with_reducible refine gS ?_); apply Es_xn); rfl; rfl; (refine LStep_storeN (T := Try.tab) rfl rfl rfl rfl rfl rfl rfl ?_ rfl; (refine Nat.le_of_ble_eq_true ?_; rfl)); rfl) | (refine Es_split rfl ?_ (fun _ => ?_) (fun _ => ?_); ((fail_if_success (refine und_t ?_; assumption)); (fail_if_success (refine und_f ?_; assumption)); exact trivial)) | (with_reducible refine Es_nil ?_) | (with_reducible refine then_n ?_) | (with_reducible refine then_r ?_) | (with_reducible refine block_n ?_) | (with_reducible refine block_r ?_) | ((with_reducible refine gR ?_); first | refine ret1 rfl ?_ | refine ret2 rfl rfl ?_ | refine ret0 ?_ | refine end1 rfl ?_ | refine end0 ?_))
      all_goals simp only [cmps] at *
      all_goals first
        | (exfalso; omega)
        | (exfalso; simp at *; done)
        | (refine ⟨(k + 1, H'), ⟨by dsimp only; omega, by dsimp only; rw [t1]; exact hd'⟩, by dsimp only; omega, by (repeat' (first | exact trivial | exact rfl | (refine ⟨Or.inl rfl, ?_⟩) | (refine ⟨Or.inr rfl, ?_⟩) | (refine ⟨Or.inr trivial, ?_⟩) | (refine ⟨rfl, ?_⟩) | (refine ⟨?_, ?_⟩))), by (repeat' (first | exact trivial | exact rfl | (refine ⟨Or.inl rfl, ?_⟩) | (refine ⟨Or.inr rfl, ?_⟩) | (refine ⟨Or.inr trivial, ?_⟩) | (refine ⟨rfl, ?_⟩) | (refine ⟨?_, ?_⟩))), ?_, by (repeat' (first | exact trivial | exact rfl | (refine ⟨Or.inl rfl, ?_⟩) | (refine ⟨Or.inr rfl, ?_⟩) | (refine ⟨Or.inr trivial, ?_⟩) | (refine ⟨rfl, ?_⟩) | (refine ⟨?_, ?_⟩)))⟩; dsimp only; rw [t1]; exact ⟨rfl, rfl, rfl, rfl, rfl, trivial⟩)
        | trace_state
  have : k = l.length := by omega
  subst this
  clear hkl hlt
  repeat' (first | ((with_reducible refine gA ?_); (first | refine AW_seq ?_ | refine AW_region ?_ | (refine AW_cond rfl (fun hc => ?_) (fun hc => ?_) <;> try (exfalso; simp only [cmpL] at hc; omega)) | refine AW_ret ?_ | refine AW_exit ?_)) | ((with_reducible refine gS ?_); refine Es_s (T := Try.tab) rfl rfl rfl rfl ?_) | (with_reducible refine Es_nil ?_) | (with_reducible refine then_n ?_) | (with_reducible refine then_e ?_) | ((with_reducible refine block_e ?_ ?_); rfl) | ((with_reducible refine gR ?_); first | refine ret1 rfl ?_ | refine ret2 rfl rfl ?_ | refine ret0 ?_ | refine end1 rfl ?_ | refine end0 ?_))
  rfl
end Go.Proofs.Ytbekoielblcbmaa
