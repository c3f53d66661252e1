import Derived.Test.YtbekoielblcbmaaY6
namespace Go.Proofs.Ytbekoielblcbmaa
open Go.SL
/-! ### LedgerCopies -/
theorem few_more {l : List Act} (h : fewL l = true) : l.length ≤ 40 ∧ ∀ x ∈ l, x.a.size ≤ 60 := by
  unfold fewL at h
  rw [Bool.and_eq_true, decide_eq_true_eq, List.all_eq_true] at h
  refine ⟨h.2, fun x hx => ?_⟩
  have := h.1 x hx
  unfold fewA at this
  rw [decide_eq_true_eq] at this
  exact this.1
theorem few_app {l m : List Act} (h : fewL l = true) (k : fewL m = true) (hl : (l ++ m).length ≤ 40) : fewL (l ++ m) = true := by
  unfold fewL at *
  rw [Bool.and_eq_true, decide_eq_true_eq] at *
  exact ⟨by rw [List.all_append, h.1, k.1]; rfl, hl⟩
theorem no_P {s : Led} {x : Act} (hg : ¬ grows s x) : (s.P.map Post.enc).length = ((doS s x).P.map Post.enc).length := by rw [doS_P hg]
set_option maxRecDepth 20000 in
set_option maxHeartbeats 8000000 in
theorem copies_ac (l more : List Act) (n : Int) (hl : l.length ≤ 140737488351232) (hl2 : more.length ≤ 140737488351232) (hk : ∀ x ∈ l, 0 ≤ x.kind) (hk2 : ∀ x ∈ more, 0 ≤ x.kind) : AC Try.prog 9 [.d (.sl 6 (l.map Act.enc)), .d (.sl 6 (more.map Act.enc)), .d (.sc (.int .i64 n))] [] [] (fun r _ => r = .d (.sc (.bool true))) := by
  have cf := few_ac l hl
  have cg := few_ac more hl2
  cases hfew : fewL l with
  | false =>
    rw [hfew] at cf
    refine AC_enter Try.func9 rfl Try.ntmps9 (rv := [.tmp 6]) rfl rfl (by simp) (fun w X G => ?_)
    repeat' (first | ((with_reducible refine gA ?_); (first | refine AW_seq ?_ | refine AW_region ?_ | refine AW_condT rfl ?_ | refine AW_ret ?_)) | ((with_reducible refine gS ?_); refine Es_s (T := Try.tab) rfl rfl rfl rfl ?_) | (((with_reducible refine gS ?_); apply Es_q); rfl; rfl; (first | refine LStep_call (awake_ac) rfl rfl rfl rfl | refine LStep_call (cf) rfl rfl rfl rfl)) | (((with_reducible refine gS ?_); apply Es_q); rfl; rfl; refine LStep_simp (T := Try.tab) rfl rfl) | (refine Es_skip rfl ?_ rfl ?_; (first | rfl | (refine w_tf ?_; assumption) | (refine w_ft ?_; assumption))) | (with_reducible refine Es_nil ?_) | (with_reducible refine then_n ?_) | (with_reducible refine then_r ?_) | ((with_reducible refine gR ?_); first | refine ret1 rfl ?_ | refine ret2 rfl rfl ?_ | refine ret0 ?_ | refine end1 rfl ?_ | refine end0 ?_))
    rfl
  | true =>
  cases hfew2 : fewL more with
  | false =>
    rw [hfew] at cf
    rw [hfew2] at cg
    refine AC_enter Try.func9 rfl Try.ntmps9 (rv := [.tmp 6]) rfl rfl (by simp) (fun w X G => ?_)
    repeat' (first | ((with_reducible refine gA ?_); (first | refine AW_seq ?_ | refine AW_region ?_ | refine AW_condT rfl ?_ | refine AW_ret ?_)) | ((with_reducible refine gS ?_); refine Es_s (T := Try.tab) rfl rfl rfl rfl ?_) | (((with_reducible refine gS ?_); apply Es_q); rfl; rfl; (first | refine LStep_call (awake_ac) rfl rfl rfl rfl | refine LStep_call (cf) rfl rfl rfl rfl | refine LStep_call (cg) rfl rfl rfl rfl)) | (((with_reducible refine gS ?_); apply Es_q); rfl; rfl; refine LStep_simp (T := Try.tab) rfl rfl) | (with_reducible refine Es_nil ?_) | (with_reducible refine then_n ?_) | (with_reducible refine then_r ?_) | ((with_reducible refine gR ?_); first | refine ret1 rfl ?_ | refine ret2 rfl rfl ?_ | refine ret0 ?_ | refine end1 rfl ?_ | refine end0 ?_))
    rfl
  | true =>
  rw [hfew] at cf
  rw [hfew2] at cg
  have cp := played_ac l hfew hk
  obtain ⟨m1, m2⟩ := few_more hfew2
  obtain ⟨l1, l2⟩ := few_more hfew
  have cb : (l ++ more).length ≤ 40 → AC Try.prog _ _ _ _ _ := fun h => played_ac (l ++ more) (few_app hfew hfew2 h) (fun x hx => (List.mem_append.1 hx).elim (hk x) (hk2 x))
  rw [playS_append] at cb
  have hok := playS_ok Led0_ok l
  have hgo := playS_good Led0_good Led0_ok l
  generalize playS Led0 l = s at cp hok hgo cb
  have he : ∀ p ∈ s.P, p.entries.length ≤ 1048576 := fun p hp => by have := (hgo p hp).1; omega
  have cc := lcopy_ac s hok he
  have ca := as_ac s n hok hgo
  have ce := alike_ac s s hok (Led.Eqv.refl s) he
  have hao := as_ok hok n
  generalize asS s n = a at ca hao
  refine AC_enter Try.func9 rfl Try.ntmps9 (rv := [.tmp 6]) rfl rfl (by simp) (fun w X G => ?_)
  repeat' (first | ((with_reducible refine gA ?_); (first | refine AW_seq ?_ | refine AW_region ?_ | refine AW_condF rfl ?_ | refine AW_skip ?_)) | ((with_reducible refine gS ?_); refine Es_s (T := Try.tab) rfl rfl rfl rfl ?_) | (((with_reducible refine gS ?_); apply Es_q); rfl; rfl; (first | refine LStep_call (awake_ac) rfl rfl rfl rfl | refine LStep_call (cf) rfl rfl rfl rfl | refine LStep_call (cg) rfl rfl rfl rfl)) | (((with_reducible refine gS ?_); apply Es_xg); rfl; rfl; (first | refine LStep_callHN [] [(5, 28), (5001, 2801), (5002, 2802), (5003, 2803)] cp rfl rfl trivial rfl trivial rfl rfl | refine LStep_callHN [(1000, 28), (1001, 2801), (1002, 2802), (1003, 2803)] [(4, 30), (4001, 3001), (28, 3002), (4003, 3003)] cc rfl rfl ⟨rfl, rfl, rfl, rfl, trivial⟩ rfl ⟨trivial, trivial, rfl, trivial, trivial⟩ rfl rfl | refine LStep_callHN [(1000, 28), (1001, 2801), (1002, 2802), (1003, 2803)] [(10, 33), (6001, 3301), (6002, 3302), (6003, 3303)] ca rfl rfl ⟨rfl, rfl, rfl, rfl, trivial⟩ rfl ⟨trivial, trivial, rfl, trivial, trivial⟩ rfl rfl); rfl) | (((with_reducible refine gS ?_); apply Es_q); rfl; rfl; refine LStep_simp (T := Try.tab) rfl rfl) | (refine Es_skip rfl ?_ rfl ?_; (first | rfl | (refine w_tf ?_; assumption) | (refine w_ft ?_; assumption))) | (with_reducible refine Es_nil ?_) | (with_reducible refine then_n ?_))
  repeat' (first | ((with_reducible refine gA ?_); refine AW_unP (m := 3001) rfl (fun es1 hes1 => ?_)) | ((with_reducible refine gA ?_); refine AW_unP (m := 3003) rfl (fun es2 hes2 => ?_)) | ((with_reducible refine gA ?_); refine AW_unP (m := 3301) rfl (fun es3 hes3 => ?_)) | ((with_reducible refine gA ?_); (first | refine AW_seq ?_ | refine AW_region ?_ | refine AW_block ?_)) | ((with_reducible refine gS ?_); refine Es_s (T := Try.tab) rfl rfl rfl rfl ?_) | (((with_reducible refine gS ?_); apply Es_xg); rfl; rfl; refine LStep_callHN [] [(5, 35), (5001, 3501), (5002, 3502), (5003, 3503)] cp rfl rfl trivial rfl trivial rfl rfl; rfl) | (((with_reducible refine gS ?_); apply Es_q); rfl; rfl; refine LStep_lenM (T := Try.tab) rfl rfl rfl rfl) | (with_reducible refine Es_nil ?_) | (with_reducible refine then_n ?_))
  obtain ⟨v1, hv1, rfl⟩ := perm_map_inv hes1 s.A rfl
  obtain ⟨v2, hv2, rfl⟩ := perm_map_inv hes2 s.H rfl
  obtain ⟨v3, hv3, rfl⟩ := perm_map_inv hes3 a.A rfl
  have hcs : (⟨v1, s.P, v2⟩ : Led).Eqv s := ⟨hv1, rfl, hv2⟩
  have hco : (⟨v1, s.P, v2⟩ : Led).Ok := hcs.symm.ok hok
  have hao2 : (⟨v3, a.P, a.H⟩ : Led).Ok := Led.Eqv.ok ⟨hv3.symm, rfl, List.Perm.refl _⟩ hao
  refine AW_forE (S := Nat) (fun k => k ≤ more.length) (fun k => [(38, .d (.sc (.int .i64 (k : Nat))))]) (fun k => hLn 30 3001 3002 3003 (playS ⟨v1, s.P, v2⟩ (more.take k)) ++ hLn 33 3301 3302 3303 (playS ⟨v3, a.P, a.H⟩ (more.take k))) (fun k => more.length - k) 0 (by omega) (by (repeat' (first | exact trivial | exact rfl | (refine ⟨Or.inl rfl, ?_⟩) | (refine ⟨Or.inr rfl, ?_⟩) | (refine ⟨rfl, ?_⟩) | (refine ⟨?_, ?_⟩)))) ⟨rfl, rfl, rfl, rfl, rfl, rfl, rfl, rfl, trivial⟩ ?_
  intro k hkl
  by_cases hlt : k < more.length
  · obtain ⟨x, hx, _⟩ := drop_at hlt
    have hxm := List.mem_of_getElem? hx
    have hx1 := m2 x hxm
    have hxk := hk2 x hxm
    have o1 := playS_ok hco (more.take k)
    have o2 := playS_ok hao2 (more.take k)
    have t1 : playS ⟨v1, s.P, v2⟩ (more.take (k + 1)) = doS (playS ⟨v1, s.P, v2⟩ (more.take k)) x := by rw [take_at hx, playS_snoc]
    have t2 : playS ⟨v3, a.P, a.H⟩ (more.take (k + 1)) = doS (playS ⟨v3, a.P, a.H⟩ (more.take k)) x := by rw [take_at hx, playS_snoc]
    generalize playS ⟨v1, s.P, v2⟩ (more.take k) = c at o1 t1 ⊢
    generalize playS ⟨v3, a.P, a.H⟩ (more.take k) = d at o2 t2 ⊢
    clear cp cc ca ce cb cf cg
    by_cases g1 : grows c x
    · have d1 := doOk_ac c x o1 hxk (by omega) g1
      have p1 := doS_grows g1
      repeat' (first | ((with_reducible refine gA ?_); (first | refine AW_seq ?_ | refine AW_region ?_ | (refine AW_cond rfl (fun hc => ?_) (fun hc => ?_) <;> try (exfalso; simp only [cmpL] at hc; omega)) | refine AW_block ?_ | refine AW_skip ?_)) | ((with_reducible refine gS ?_); refine Es_s (T := Try.tab) rfl rfl rfl rfl ?_) | (((with_reducible refine gS ?_); apply Es_xg); rfl; rfl; refine LStep_callGN [1002] [(1000, 30), (1001, 3001), (1002, 3002), (1003, 3003)] [] d1 rfl rfl ⟨rfl, rfl, rfl, rfl, trivial⟩ rfl ⟨trivial, trivial, p1, trivial, trivial⟩ rfl rfl; rfl) | (((with_reducible refine gS ?_); apply Es_q); rfl; rfl; (refine LStep_indexM (T := Try.tab) (c := ?_) rfl rfl rfl rfl rfl rfl ?_; rotate_left; assumption)) | (refine Es_skip rfl ?_ rfl ?_; (first | rfl | (refine w_tf ?_; assumption) | (refine w_ft ?_; assumption))) | (((with_reducible refine gS ?_); apply Es_xs); rfl; rfl; refine LStep_allocN (T := Try.tab) rfl rfl rfl rfl rfl rfl; rfl) | (((with_reducible refine gS ?_); apply Es_xn); rfl; rfl; (refine LStep_storeN (T := Try.tab) rfl rfl rfl rfl rfl rfl rfl ?_ rfl; (refine Nat.le_of_ble_eq_true ?_; rfl)); rfl) | (with_reducible refine Es_nil ?_) | (with_reducible refine then_n ?_))
      by_cases g2 : grows d x
      · have d2 := doOk_ac d x o2 hxk (by omega) g2
        have p2 := doS_grows g2
        repeat' (first | ((with_reducible refine gA ?_); refine AW_region ?_) | ((with_reducible refine gS ?_); refine Es_s (T := Try.tab) rfl rfl rfl rfl ?_) | (((with_reducible refine gS ?_); apply Es_xg); rfl; rfl; refine LStep_callGN [1002] [(1000, 33), (1001, 3301), (1002, 3302), (1003, 3303)] [] d2 rfl rfl ⟨rfl, rfl, rfl, rfl, trivial⟩ rfl ⟨trivial, trivial, p2, trivial, trivial⟩ rfl rfl; rfl) | (((with_reducible refine gS ?_); apply Es_q); rfl; rfl; (refine LStep_add rfl rfl rfl rfl ?_; (refine IntWalk.i64_in _ ?_; first | omega | (simp only [cmps] at *; omega)))) | (with_reducible refine Es_nil ?_) | (with_reducible refine then_n ?_) | (with_reducible refine block_n ?_))
        refine ⟨k + 1, by omega, by omega, by (repeat' (first | exact trivial | exact rfl | (refine ⟨Or.inl rfl, ?_⟩) | (refine ⟨Or.inr rfl, ?_⟩) | (refine ⟨rfl, ?_⟩) | (refine ⟨?_, ?_⟩))), by (repeat' (first | exact trivial | exact rfl | (refine ⟨Or.inl rfl, ?_⟩) | (refine ⟨Or.inr rfl, ?_⟩) | (refine ⟨rfl, ?_⟩) | (refine ⟨?_, ?_⟩))), ?_, by (repeat' (first | exact trivial | exact rfl | (refine ⟨Or.inl rfl, ?_⟩) | (refine ⟨Or.inr rfl, ?_⟩) | (refine ⟨rfl, ?_⟩) | (refine ⟨?_, ?_⟩)))⟩
        rw [t1, t2]; exact ⟨rfl, rfl, rfl, rfl, rfl, rfl, rfl, rfl, trivial⟩
      · have d2 := doNo_ac d x o2 hxk g2
        have p2 := no_P g2
        repeat' (first | ((with_reducible refine gA ?_); refine AW_region ?_) | ((with_reducible refine gS ?_); refine Es_s (T := Try.tab) rfl rfl rfl rfl ?_) | (((with_reducible refine gS ?_); apply Es_xg); rfl; rfl; refine LStep_callHN [(1000, 33), (1001, 3301), (1002, 3302), (1003, 3303)] [] d2 rfl rfl ⟨rfl, rfl, rfl, rfl, trivial⟩ rfl ⟨trivial, trivial, p2, trivial, trivial⟩ rfl rfl; rfl) | (((with_reducible refine gS ?_); apply Es_q); rfl; rfl; (refine LStep_add rfl rfl rfl rfl ?_; (refine IntWalk.i64_in _ ?_; first | omega | (simp only [cmps] at *; omega)))) | (with_reducible refine Es_nil ?_) | (with_reducible refine then_n ?_) | (with_reducible refine block_n ?_))
        refine ⟨k + 1, by omega, by omega, by (repeat' (first | exact trivial | exact rfl | (refine ⟨Or.inl rfl, ?_⟩) | (refine ⟨Or.inr rfl, ?_⟩) | (refine ⟨rfl, ?_⟩) | (refine ⟨?_, ?_⟩))), by (repeat' (first | exact trivial | exact rfl | (refine ⟨Or.inl rfl, ?_⟩) | (refine ⟨Or.inr rfl, ?_⟩) | (refine ⟨rfl, ?_⟩) | (refine ⟨?_, ?_⟩))), ?_, by (repeat' (first | exact trivial | exact rfl | (refine ⟨Or.inl rfl, ?_⟩) | (refine ⟨Or.inr rfl, ?_⟩) | (refine ⟨rfl, ?_⟩) | (refine ⟨?_, ?_⟩)))⟩
        rw [t1, t2]; exact ⟨rfl, rfl, rfl, rfl, rfl, rfl, rfl, rfl, trivial⟩
    · have d1 := doNo_ac c x o1 hxk g1
      have p1 := no_P g1
      repeat' (first | ((with_reducible refine gA ?_); (first | refine AW_seq ?_ | refine AW_region ?_ | (refine AW_cond rfl (fun hc => ?_) (fun hc => ?_) <;> try (exfalso; simp only [cmpL] at hc; omega)) | refine AW_block ?_ | refine AW_skip ?_)) | ((with_reducible refine gS ?_); refine Es_s (T := Try.tab) rfl rfl rfl rfl ?_) | (((with_reducible refine gS ?_); apply Es_xg); rfl; rfl; refine LStep_callHN [(1000, 30), (1001, 3001), (1002, 3002), (1003, 3003)] [] d1 rfl rfl ⟨rfl, rfl, rfl, rfl, trivial⟩ rfl ⟨trivial, trivial, p1, trivial, trivial⟩ rfl rfl; rfl) | (((with_reducible refine gS ?_); apply Es_q); rfl; rfl; (refine LStep_indexM (T := Try.tab) (c := ?_) rfl rfl rfl rfl rfl rfl ?_; rotate_left; assumption)) | (refine Es_skip rfl ?_ rfl ?_; (first | rfl | (refine w_tf ?_; assumption) | (refine w_ft ?_; assumption))) | (((with_reducible refine gS ?_); apply Es_xs); rfl; rfl; refine LStep_allocN (T := Try.tab) rfl rfl rfl rfl rfl rfl; rfl) | (((with_reducible refine gS ?_); apply Es_xn); rfl; rfl; (refine LStep_storeN (T := Try.tab) rfl rfl rfl rfl rfl rfl rfl ?_ rfl; (refine Nat.le_of_ble_eq_true ?_; rfl)); rfl) | (with_reducible refine Es_nil ?_) | (with_reducible refine then_n ?_))
      by_cases g2 : grows d x
      · have d2 := doOk_ac d x o2 hxk (by omega) g2
        have p2 := doS_grows g2
        repeat' (first | ((with_reducible refine gA ?_); refine AW_region ?_) | ((with_reducible refine gS ?_); refine Es_s (T := Try.tab) rfl rfl rfl rfl ?_) | (((with_reducible refine gS ?_); apply Es_xg); rfl; rfl; refine LStep_callGN [1002] [(1000, 33), (1001, 3301), (1002, 3302), (1003, 3303)] [] d2 rfl rfl ⟨rfl, rfl, rfl, rfl, trivial⟩ rfl ⟨trivial, trivial, p2, trivial, trivial⟩ rfl rfl; rfl) | (((with_reducible refine gS ?_); apply Es_q); rfl; rfl; (refine LStep_add rfl rfl rfl rfl ?_; (refine IntWalk.i64_in _ ?_; first | omega | (simp only [cmps] at *; omega)))) | (with_reducible refine Es_nil ?_) | (with_reducible refine then_n ?_) | (with_reducible refine block_n ?_))
        refine ⟨k + 1, by omega, by omega, by (repeat' (first | exact trivial | exact rfl | (refine ⟨Or.inl rfl, ?_⟩) | (refine ⟨Or.inr rfl, ?_⟩) | (refine ⟨rfl, ?_⟩) | (refine ⟨?_, ?_⟩))), by (repeat' (first | exact trivial | exact rfl | (refine ⟨Or.inl rfl, ?_⟩) | (refine ⟨Or.inr rfl, ?_⟩) | (refine ⟨rfl, ?_⟩) | (refine ⟨?_, ?_⟩))), ?_, by (repeat' (first | exact trivial | exact rfl | (refine ⟨Or.inl rfl, ?_⟩) | (refine ⟨Or.inr rfl, ?_⟩) | (refine ⟨rfl, ?_⟩) | (refine ⟨?_, ?_⟩)))⟩
        rw [t1, t2]; exact ⟨rfl, rfl, rfl, rfl, rfl, rfl, rfl, rfl, trivial⟩
      · have d2 := doNo_ac d x o2 hxk g2
        have p2 := no_P g2
        repeat' (first | ((with_reducible refine gA ?_); refine AW_region ?_) | ((with_reducible refine gS ?_); refine Es_s (T := Try.tab) rfl rfl rfl rfl ?_) | (((with_reducible refine gS ?_); apply Es_xg); rfl; rfl; refine LStep_callHN [(1000, 33), (1001, 3301), (1002, 3302), (1003, 3303)] [] d2 rfl rfl ⟨rfl, rfl, rfl, rfl, trivial⟩ rfl ⟨trivial, trivial, p2, trivial, trivial⟩ rfl rfl; rfl) | (((with_reducible refine gS ?_); apply Es_q); rfl; rfl; (refine LStep_add rfl rfl rfl rfl ?_; (refine IntWalk.i64_in _ ?_; first | omega | (simp only [cmps] at *; omega)))) | (with_reducible refine Es_nil ?_) | (with_reducible refine then_n ?_) | (with_reducible refine block_n ?_))
        refine ⟨k + 1, by omega, by omega, by (repeat' (first | exact trivial | exact rfl | (refine ⟨Or.inl rfl, ?_⟩) | (refine ⟨Or.inr rfl, ?_⟩) | (refine ⟨rfl, ?_⟩) | (refine ⟨?_, ?_⟩))), by (repeat' (first | exact trivial | exact rfl | (refine ⟨Or.inl rfl, ?_⟩) | (refine ⟨Or.inr rfl, ?_⟩) | (refine ⟨rfl, ?_⟩) | (refine ⟨?_, ?_⟩))), ?_, by (repeat' (first | exact trivial | exact rfl | (refine ⟨Or.inl rfl, ?_⟩) | (refine ⟨Or.inr rfl, ?_⟩) | (refine ⟨rfl, ?_⟩) | (refine ⟨?_, ?_⟩)))⟩
        rw [t1, t2]; exact ⟨rfl, rfl, rfl, rfl, rfl, rfl, rfl, rfl, trivial⟩
  have : k = more.length := by omega
  subst this
  rw [List.take_length]
  have hfin := playS_eqv hcs hco more
  have hfo := playS_ok hco more
  have hfg : ∀ p ∈ (playS ⟨v1, s.P, v2⟩ more).P, p.entries.length ≤ 1048576 := fun p hp => by
    rw [hfin.P] at hp
    have := (playS_good hgo hok more p hp).1
    omega
  generalize playS ⟨v3, a.P, a.H⟩ more = d
  generalize playS ⟨v1, s.P, v2⟩ more = c at hfin hfo hfg ⊢
  have hlen : (l.map Act.enc ++ more.map Act.enc).length = (l ++ more).length := by simp
  have hmap : l.map Act.enc ++ more.map Act.enc = (l ++ more).map Act.enc := (List.map_append).symm
  by_cases hlong : (l ++ more).length ≤ 40
  · have cb := cb hlong
    rw [← hmap] at cb
    have hb : ltb 40 (([] ++ l.map Act.enc ++ more.map Act.enc).length : Nat) = false := ltb_f.2 (by simp only [List.nil_append]; rw [hlen]; omega)
    generalize playS s more = u at cb hfin
    have cq := alike_ac c u hfo hfin hfg
    repeat' (first | ((with_reducible refine gA ?_); refine AW_freeze [13] (id := 49) ⟨rfl, trivial⟩ rfl rfl ?_) | ((with_reducible refine gA ?_); (first | refine AW_seq ?_ | refine AW_region ?_ | (refine AW_cond rfl (fun hc => ?_) (fun hc => ?_) <;> try (exfalso; simp only [cmpL] at hc; omega)) | refine AW_exit ?_)) | ((with_reducible refine gS ?_); refine Es_s (T := Try.tab) rfl rfl rfl rfl ?_) | (((with_reducible refine gS ?_); apply Es_xs); rfl; rfl; (first | (refine LStep_litOwn (T := Try.tab) (len := 0) rfl rfl rfl rfl rfl rfl rfl rfl rfl rfl ?_ ?_; (refine Nat.le_of_ble_eq_true ?_; rfl); (unfold maxLen; omega)) | (refine LStep_append (T := Try.tab) rfl rfl rfl rfl rfl rfl rfl rfl rfl rfl ?_ ?_ ?_; rfl; (simp only [List.nil_append, List.length_map, List.length_append, List.length_nil]; omega); (unfold maxLen; simp only [List.nil_append, List.length_map, List.length_append, List.length_nil]; omega))); rfl) | (refine Es_skip rfl ?_ rfl ?_; (first | rfl | (refine w_tf ?_; assumption) | (refine w_ft ?_; assumption))) | (with_reducible refine Es_nil ?_) | (with_reducible refine then_n ?_) | (with_reducible refine then_e ?_) | ((with_reducible refine block_e ?_ ?_); rfl))
    repeat' (first | ((with_reducible refine gS ?_); refine Es_s (T := Try.tab) rfl rfl rfl rfl ?_) | (((with_reducible refine gS ?_); apply Es_xg); rfl; (first | rfl | (refine w_ff ?_; assumption)); (first | refine LStep_callHN [(1000, 28), (1001, 2801), (1002, 2802), (1003, 2803), (1100, 35), (1101, 3501), (1102, 3502), (1103, 3503)] [] ce rfl rfl ⟨rfl, rfl, rfl, rfl, rfl, rfl, rfl, rfl, trivial⟩ rfl ⟨trivial, trivial, rfl, trivial, trivial, trivial, rfl, trivial, trivial⟩ rfl rfl | refine LStep_callHN [] [(5, 64), (5001, 6401), (5002, 6402), (5003, 6403)] cb rfl rfl trivial rfl trivial rfl rfl); rfl) | (((with_reducible refine gS ?_); apply Es_q); rfl; (first | rfl | (refine w_ff ?_; assumption)); (first | refine LStep_simp (T := Try.tab) rfl rfl | refine LStep_wrap (T := Try.tab) rfl rfl)) | (refine Es_skip rfl ?_ rfl ?_; (first | rfl | (refine w_tf ?_; assumption) | (refine w_ft ?_; assumption))) | (refine Es_split rfl ?_ (fun _ => ?_) (fun _ => ?_); ((fail_if_success (refine und_t ?_; assumption)); (fail_if_success (refine und_f ?_; assumption)); exact trivial)))
    repeat' (first | ((with_reducible refine gA ?_); refine AW_ret ?_) | ((with_reducible refine gS ?_); refine Es_s (T := Try.tab) rfl rfl rfl rfl ?_) | (((with_reducible refine gS ?_); apply Es_xg); rfl; (first | rfl | (refine w_ff ?_; assumption)); refine LStep_callHN [(1000, 30), (1001, 3001), (1002, 3002), (1003, 3003), (1100, 64), (1101, 6401), (1102, 6402), (1103, 6403)] [] cq rfl rfl ⟨rfl, rfl, rfl, rfl, rfl, rfl, rfl, rfl, trivial⟩ rfl ⟨trivial, trivial, rfl, trivial, trivial, trivial, rfl, trivial, trivial⟩ rfl rfl; rfl) | (((with_reducible refine gS ?_); apply Es_q); rfl; rfl; (refine LStep_pickF rfl rfl ?_ rfl rfl; assumption)) | (with_reducible refine Es_nil ?_) | (with_reducible refine then_n ?_) | ((with_reducible refine gR ?_); first | refine ret1 rfl ?_ | refine ret2 rfl rfl ?_ | refine ret0 ?_ | refine end1 rfl ?_ | refine end0 ?_))
    rfl
  · have hb : ltb 40 (([] ++ l.map Act.enc ++ more.map Act.enc).length : Nat) = true := ltb_t.2 (by simp only [List.nil_append]; rw [hlen]; omega)
    repeat' (first | ((with_reducible refine gA ?_); refine AW_freeze [13] (id := 49) ⟨rfl, trivial⟩ rfl rfl ?_) | ((with_reducible refine gA ?_); (first | refine AW_seq ?_ | refine AW_region ?_ | (refine AW_cond rfl (fun hc => ?_) (fun hc => ?_) <;> try (exfalso; simp only [cmpL] at hc; omega)) | refine AW_exit ?_)) | ((with_reducible refine gS ?_); refine Es_s (T := Try.tab) rfl rfl rfl rfl ?_) | (((with_reducible refine gS ?_); apply Es_xs); rfl; rfl; (first | (refine LStep_litOwn (T := Try.tab) (len := 0) rfl rfl rfl rfl rfl rfl rfl rfl rfl rfl ?_ ?_; (refine Nat.le_of_ble_eq_true ?_; rfl); (unfold maxLen; omega)) | (refine LStep_append (T := Try.tab) rfl rfl rfl rfl rfl rfl rfl rfl rfl rfl ?_ ?_ ?_; rfl; (simp only [List.nil_append, List.length_map, List.length_append, List.length_nil]; omega); (unfold maxLen; simp only [List.nil_append, List.length_map, List.length_append, List.length_nil]; omega))); rfl) | (refine Es_skip rfl ?_ rfl ?_; (first | rfl | (refine w_tf ?_; assumption) | (refine w_ft ?_; assumption))) | (with_reducible refine Es_nil ?_) | (with_reducible refine then_n ?_) | (with_reducible refine then_e ?_) | ((with_reducible refine block_e ?_ ?_); rfl))
    repeat' (first | ((with_reducible refine gA ?_); refine AW_ret ?_) | ((with_reducible refine gS ?_); refine Es_s (T := Try.tab) rfl rfl rfl rfl ?_) | (((with_reducible refine gS ?_); apply Es_xg); rfl; rfl; refine LStep_callHN [(1000, 28), (1001, 2801), (1002, 2802), (1003, 2803), (1100, 35), (1101, 3501), (1102, 3502), (1103, 3503)] [] ce rfl rfl ⟨rfl, rfl, rfl, rfl, rfl, rfl, rfl, rfl, trivial⟩ rfl ⟨trivial, trivial, rfl, trivial, trivial, trivial, rfl, trivial, trivial⟩ rfl rfl; rfl) | (((with_reducible refine gS ?_); apply Es_q); rfl; rfl; (first | refine LStep_simp (T := Try.tab) rfl rfl | refine LStep_wrap (T := Try.tab) rfl rfl | (refine LStep_pickT rfl rfl ?_ rfl rfl; assumption))) | (refine Es_skip rfl ?_ rfl ?_; (first | rfl | (refine w_tf ?_; assumption) | (refine w_ft ?_; assumption))) | (with_reducible refine Es_nil ?_) | (with_reducible refine then_n ?_) | ((with_reducible refine gR ?_); first | refine ret1 rfl ?_ | refine ret2 rfl rfl ?_ | refine ret0 ?_ | refine end1 rfl ?_ | refine end0 ?_))
    rfl
end Go.Proofs.Ytbekoielblcbmaa
