import Derived.Test.YtbekoielblcbmaaX6
namespace Go.Proofs.Ytbekoielblcbmaa
open Go.SL
/-! ### LedgerTakes -/
def bsS : ByteArray := ⟨#[115, 105, 110, 107]⟩
def keepS (s : Led) (x : Act) : Led := if x.a = bsK then s else doS s x
def keptS (s : Led) (l : List Act) : Led := l.foldl keepS s
theorem keptS_snoc (s : Led) (l : List Act) (x : Act) : keptS s (l ++ [x]) = keepS (keptS s l) x := by simp [keptS]
theorem doS_len (s : Led) (x : Act) : (doS s x).P.length ≤ s.P.length + 1 := by
  by_cases hg : grows s x
  · rcases hg with ⟨h, hq⟩ | ⟨h, hq⟩
    · rw [doS, if_neg (by rw [h]; decide), if_pos h, if_pos hq]
      simp [enterS]
    · rw [doS, if_neg (by rw [h]; decide), if_neg (by rw [h]; decide), if_neg (by rw [h]; decide), if_pos h, if_pos hq]
      obtain ⟨h', a, q1, _⟩ := takeE_ok hq
      unfold takeS
      rw [q1]
      simp [enterS, lessS]
  · rw [doS_P hg]; omega
theorem playS_len (s : Led) (l : List Act) : (playS s l).P.length ≤ s.P.length + l.length := by
  unfold playS
  induction l generalizing s with
  | nil => simp
  | cons x l ih =>
    have h1 := ih (doS s x)
    have h2 := doS_len s x
    rw [List.foldl_cons, List.length_cons]
    omega
theorem lessS_H {s : Led} (hs : s.Ok) {i : ByteArray} {h : Hld} (he : aget i s.H = some h) (m : Int) {j : ByteArray} (hj : i ≠ j) : aget j (lessS s h m).H = aget j s.H := by
  have hid := (hs.hold i h he).1
  show aget j (if h.amt - m = 0 then adel h.id s.H else aput h.id ⟨h.id, h.acct, h.cur, h.amt - m⟩ s.H) = _
  rw [hid]
  split
  · rw [aget_del _ _ _ hs.nH, if_neg hj]
  · rw [aget_put, if_neg hj]
/-- a hold that no act names stays -/
theorem doS_H {s : Led} (hs : s.Ok) {x : Act} {j : ByteArray} (hx : x.a ≠ j) : aget j (doS s x).H = aget j s.H := by
  unfold doS
  split
  · unfold openS
    split
    · rfl
    split
    · rfl
    split
    · rfl
    split
    · rfl
    rfl
  split
  · split <;> rfl
  split
  · unfold holdS
    split
    · show aget j (aput x.a _ s.H) = _
      rw [aget_put, if_neg hx]
    · rfl
  split
  · split
    · rename_i hq
      obtain ⟨h', a, q1, _⟩ := takeE_ok hq
      unfold takeS
      rw [q1]
      exact lessS_H hs q1 _ hx
    · rfl
  · unfold letS
    cases hq : aget x.a s.H with
    | none => rfl
    | some h' => exact lessS_H hs hq _ hx
theorem keepS_ok {s : Led} (hs : s.Ok) (x : Act) : (keepS s x).Ok := by
  unfold keepS
  split
  · exact hs
  · exact doS_ok hs x
theorem keepS_H {s : Led} (hs : s.Ok) (x : Act) : aget bsK (keepS s x).H = aget bsK s.H := by
  unfold keepS
  split
  · rfl
  · rename_i h
    exact doS_H hs h
theorem keepS_len (s : Led) (x : Act) : (keepS s x).P.length ≤ s.P.length + 1 := by
  unfold keepS
  split
  · omega
  · exact doS_len s x
theorem keptS_all {s : Led} (hs : s.Ok) (l : List Act) : (keptS s l).Ok ∧ aget bsK (keptS s l).H = aget bsK s.H ∧ (keptS s l).P.length ≤ s.P.length + l.length := by
  unfold keptS
  induction l generalizing s with
  | nil => exact ⟨hs, rfl, by simp⟩
  | cons x l ih =>
    obtain ⟨h1, h2, h3⟩ := ih (keepS_ok hs x)
    have h4 := keepS_len s x
    rw [List.foldl_cons, List.length_cons]
    exact ⟨h1, h2.trans (keepS_H hs x), by omega⟩
theorem openE_or (s : Led) : (openS s bsS bsE 0).2 = 0 ∨ (openS s bsS bsE 0).2 = 5 ∨ (openS s bsS bsE 0).2 = 7 := by
  have h1 : (lnameOk bsS && lcurOk bsE) = true := by kernel_rfl
  unfold openS
  rw [if_neg (by rw [h1]; exact fun h => by cases h), if_neg (by omega)]
  split
  · exact .inr (.inl rfl)
  split
  · exact .inr (.inr rfl)
  · exact .inl rfl
theorem open_has {s : Led} (h : (openS s bsS bsE 0).2 = 0 ∨ (openS s bsS bsE 0).2 = 5) : aget (bsS, bsE) (openS s bsS bsE 0).1.A ≠ none := by
  have h1 : (lnameOk bsS && lcurOk bsE) = true := by kernel_rfl
  unfold openS at h ⊢
  rw [if_neg (by rw [h1]; exact fun h => by cases h), if_neg (by omega)] at h ⊢
  by_cases h2 : (aget (bsS, bsE) s.A).isSome = true
  · rw [if_pos h2]
    intro e
    rw [show aget (bsS, bsE) s.A = none from e] at h2
    cases h2
  rw [if_neg h2] at h ⊢
  by_cases h3 : s.A.length ≥ 4096
  · rw [if_pos h3] at h
    simp at h
  rw [if_neg h3]
  show aget (bsS, bsE) (aput (bsS, bsE) _ s.A) ≠ none
  rw [aget_put_self]
  simp
theorem open_H (s : Led) (n c : ByteArray) (f : Int) : (openS s n c f).1.H = s.H := by
  unfold openS
  split
  · rfl
  split
  · rfl
  split
  · rfl
  split
  · rfl
  rfl
/-- what is taken whole -/
theorem take_does {s : Led} (hs : s.Ok) {m : Int} (hm : 1 ≤ m) (hh : aget bsK s.H = some ⟨bsK, bsA, bsE, m⟩) (ha : aget (bsS, bsE) s.A ≠ none) (hP : s.P.length < 4096) (hb : wrp .i64 (balS s (bsS, bsE) + m) ≤ 1099511627776) :
    takeE s bsK bsS m = 0 ∧ balS (takeS s bsK bsS m) (bsS, bsE) = wrp .i64 (balS s (bsS, bsE) + m) ∧ balS (takeS s bsK bsS m) (bsA, bsE) = wrp .i64 (balS s (bsA, bsE) - m) ∧ letE (takeS s bsK bsS m) bsK = 4 := by
  have hne : ¬ bsS = bsA := by intro e; exact absurd (congrArg ByteArray.size e) (by decide)
  have hk := (hs.hold _ _ hh).2.1
  have he : takeE s bsK bsS m = 0 := by
    unfold takeE
    rw [hh]
    show takeH s ⟨bsK, bsA, bsE, m⟩ bsS m = 0
    unfold takeH
    have h1 : ¬ (aget (bsS, bsE) s.A).isNone = true := by
      cases hq : aget (bsS, bsE) s.A with
      | none => exact absurd hq ha
      | some a => simp
    rw [if_neg h1, if_neg hne, if_neg (by simp only; omega), if_neg (by omega), if_neg (show ¬ 1099511627776 < wrp .i64 (balA s.A (bsS, bsE) + m) from Int.not_lt.2 hb)]
  have e1 : takeS s bsK bsS m = enterS (lessS s ⟨bsK, bsA, bsE, m⟩ m) (takeT bsK) (takeX ⟨bsK, bsA, bsE, m⟩ bsS m) := by
    unfold takeS
    rw [hh]
  have hkk : ¬ (bsA, bsE) = (bsS, bsE) := fun e => hne (Prod.mk.inj e).1.symm
  have hX : chgL (takeX ⟨bsK, bsA, bsE, m⟩ bsS m) = aput (bsS, bsE) ((aget (bsS, bsE) (aput (bsA, bsE) (0 + -m) [])).getD 0 + m) (aput (bsA, bsE) (0 + -m) []) := rfl
  have c1 : aget (bsS, bsE) (chgL (takeX ⟨bsK, bsA, bsE, m⟩ bsS m)) = some m := by
    rw [hX, aget_put_self, aget_put, if_neg hkk]
    simp [aget]
  have c2 : aget (bsA, bsE) (chgL (takeX ⟨bsK, bsA, bsE, m⟩ bsS m)) = some (-m) := by
    rw [hX, aget_put, if_neg (fun e => hkk e.symm), aget_put_self]
    simp
  have hA : ∃ a, aget (bsA, bsE) s.A = some a := by
    cases hq : aget (bsA, bsE) s.A with
    | none => exact absurd hq hk
    | some a => exact ⟨a, rfl⟩
  have hS : ∃ a, aget (bsS, bsE) s.A = some a := by
    cases hq : aget (bsS, bsE) s.A with
    | none => exact absurd hq ha
    | some a => exact ⟨a, rfl⟩
  obtain ⟨a, hA⟩ := hA
  obtain ⟨b, hS⟩ := hS
  have l1 : aget (bsA, bsE) (lessS s ⟨bsK, bsA, bsE, m⟩ m).A = some ⟨a.floor, a.bal, wrp .i64 (a.held - m)⟩ := by
    show aget (bsA, bsE) (aput (bsA, bsE) _ s.A) = _
    rw [aget_put_self]
    simp only [Hld.key, hA, Option.getD_some]
  have l2 : aget (bsS, bsE) (lessS s ⟨bsK, bsA, bsE, m⟩ m).A = some b := by
    show aget (bsS, bsE) (aput (bsA, bsE) _ s.A) = _
    rw [aget_put, if_neg hkk, hS]
  rw [e1]
  refine ⟨he, ?_, ?_, ?_⟩
  · show ((aget (bsS, bsE) (enterA _ (lessS s ⟨bsK, bsA, bsE, m⟩ m).A)).getD ⟨0, 0, 0⟩).bal = _
    rw [enterA_get, l2]
    unfold balS
    rw [hS]
    simp [addAcc, c1]
  · show ((aget (bsA, bsE) (enterA _ (lessS s ⟨bsK, bsA, bsE, m⟩ m).A)).getD ⟨0, 0, 0⟩).bal = _
    rw [enterA_get, l1]
    unfold balS
    rw [hA]
    simp [addAcc, c2, Int.sub_eq_add_neg]
  · have : aget bsK (enterS (lessS s ⟨bsK, bsA, bsE, m⟩ m) (takeT bsK) (takeX ⟨bsK, bsA, bsE, m⟩ bsS m)).H = none := by
      show aget bsK (if m - m = 0 then adel bsK s.H else _) = none
      rw [if_pos (Int.sub_self m), aget_del _ _ _ hs.nH, if_pos rfl]
    unfold letE
    rw [this]
    rfl
theorem letS_none {s : Led} {i : ByteArray} (h : letE s i = 4) : letS s i = s := by
  unfold letE at h
  unfold letS
  cases hq : aget i s.H with
  | none => rfl
  | some x => rw [hq] at h; simp at h
set_option maxRecDepth 10000 in
set_option maxHeartbeats 4000000 in
theorem takes_ac (l : List Act) (m : Int) (more : List Act) (hl : l.length ≤ 140737488351232) (hl2 : more.length ≤ 140737488351232) (hk : ∀ x ∈ l, 0 ≤ x.kind) (hk2 : ∀ x ∈ more, 0 ≤ x.kind) : AC Try.prog 3 [.d (.sl 6 (l.map Act.enc)), .d (.sc (.int .i64 m)), .d (.sl 6 (more.map Act.enc))] [] [] (fun r _ => r = .d (.sc (.bool true))) := by
  have cf := few_ac l hl
  have cg := few_ac more hl2
  cases hfew : fewL l with
  | false =>
    rw [hfew] at cf
    refine AC_enter Try.func3 rfl Try.ntmps3 (rv := [.tmp 6]) rfl rfl (by simp) (fun w X G => ?_)
    repeat' (first | ((with_reducible refine gA ?_); (first | refine AW_seq ?_ | refine AW_region ?_ | refine AW_condT rfl ?_ | refine AW_ret ?_)) | ((with_reducible refine gS ?_); refine Es_s (T := Try.tab) rfl rfl rfl rfl ?_) | (((with_reducible refine gS ?_); apply Es_q); rfl; rfl; (first | refine LStep_call (awake_ac) rfl rfl rfl rfl | refine LStep_call (cf) rfl rfl rfl rfl)) | (((with_reducible refine gS ?_); apply Es_q); rfl; rfl; refine LStep_simp (T := Try.tab) rfl rfl) | (refine Es_skip rfl ?_ rfl ?_; (first | rfl | (refine w_tf ?_; assumption) | (refine w_ft ?_; assumption))) | (with_reducible refine Es_nil ?_) | (with_reducible refine then_n ?_) | (with_reducible refine then_r ?_) | ((with_reducible refine gR ?_); first | refine ret1 rfl ?_ | refine ret2 rfl rfl ?_ | refine ret0 ?_ | refine end1 rfl ?_ | refine end0 ?_))
    rfl
  | true =>
  cases hfew2 : fewL more with
  | false =>
    rw [hfew] at cf
    rw [hfew2] at cg
    refine AC_enter Try.func3 rfl Try.ntmps3 (rv := [.tmp 6]) rfl rfl (by simp) (fun w X G => ?_)
    repeat' (first | ((with_reducible refine gA ?_); (first | refine AW_seq ?_ | refine AW_region ?_ | refine AW_condT rfl ?_ | refine AW_ret ?_)) | ((with_reducible refine gS ?_); refine Es_s (T := Try.tab) rfl rfl rfl rfl ?_) | (((with_reducible refine gS ?_); apply Es_q); rfl; rfl; (first | refine LStep_call (awake_ac) rfl rfl rfl rfl | refine LStep_call (cf) rfl rfl rfl rfl | refine LStep_call (cg) rfl rfl rfl rfl)) | (((with_reducible refine gS ?_); apply Es_q); rfl; rfl; refine LStep_simp (T := Try.tab) rfl rfl) | (with_reducible refine Es_nil ?_) | (with_reducible refine then_n ?_) | (with_reducible refine then_r ?_) | ((with_reducible refine gR ?_); first | refine ret1 rfl ?_ | refine ret2 rfl rfl ?_ | refine ret0 ?_ | refine end1 rfl ?_ | refine end0 ?_))
    rfl
  | true =>
    rw [hfew] at cf
    rw [hfew2] at cg
    have cp := played_ac l hfew hk
    have hok := playS_ok Led0_ok l
    have hlen := playS_len Led0 l
    unfold fewL at hfew hfew2
    rw [Bool.and_eq_true, decide_eq_true_eq, List.all_eq_true] at hfew hfew2
    obtain ⟨hf2, hm40⟩ := hfew2
    have hl40 := hfew.2
    have hP0 : (playS Led0 l).P.length ≤ 40 := by have h0 : Led0.P.length = 0 := rfl; omega
    clear hlen hfew
    generalize playS Led0 l = s at cp hok hP0
    have c3 := hold_ac s bsK bsA bsE m (by have := hok.lH; omega)
    have p1 : (s.P.map Post.enc).length = ((holdS s bsK bsA bsE m).P.map Post.enc).length := by rw [holdS_P]
    by_cases he : holdE s bsK bsA bsE m = 0
    · rw [he] at c3
      have hok1 := holdS_ok hok bsK bsA bsE m
      have hH : aget bsK (holdS s bsK bsA bsE m).H = some ⟨bsK, bsA, bsE, m⟩ := by
        unfold holdS
        rw [if_pos he]
        exact aget_put_self _ _ _
      have hm1 := (holdE_ok he).2.2.2.1
      have hP1 : (holdS s bsK bsA bsE m).P.length ≤ 40 := by rw [holdS_P]; exact hP0
      generalize holdS s bsK bsA bsE m = s1 at *
      refine AC_enter Try.func3 rfl Try.ntmps3 (rv := [.tmp 6]) rfl rfl (by simp) (fun w X G => ?_)
      repeat' (first | ((with_reducible refine gA ?_); (first | refine AW_seq ?_ | refine AW_region ?_ | refine AW_condF rfl ?_ | (refine AW_cond rfl (fun hc => ?_) (fun hc => ?_) <;> try (exfalso; simp only [cmpL] at hc; omega)) | refine AW_block ?_ | refine AW_skip ?_)) | ((with_reducible refine gS ?_); refine Es_s (T := Try.tab) rfl rfl rfl rfl ?_) | (((with_reducible refine gS ?_); apply Es_q); rfl; rfl; (first | refine LStep_call (awake_ac) rfl rfl rfl rfl | refine LStep_call (cf) rfl rfl rfl rfl | refine LStep_call (cg) rfl rfl rfl rfl)) | (((with_reducible refine gS ?_); apply Es_xg); rfl; rfl; (first | refine LStep_callHN [] [(5, 34), (5001, 3401), (5002, 3402), (5003, 3403)] cp rfl rfl trivial rfl trivial rfl rfl | refine LStep_callHN [(1000, 34), (1001, 3401), (1002, 3402), (1003, 3403)] [] c3 rfl rfl ⟨rfl, rfl, rfl, rfl, trivial⟩ rfl ⟨trivial, trivial, p1, trivial, trivial⟩ rfl rfl); rfl) | (((with_reducible refine gS ?_); apply Es_q); rfl; rfl; (first | refine LStep_simp (T := Try.tab) rfl rfl | refine LStep_lenM (T := Try.tab) rfl rfl rfl rfl)) | (with_reducible refine Es_nil ?_) | (with_reducible refine then_n ?_))
      all_goals first
        | (exfalso; simp [eqb] at *; done)
        | skip
      refine AW_forE (S := Nat) (fun k => k ≤ more.length) (fun k => [(41, .d (.sc (.int .i64 (k : Nat))))]) (fun k => hLn 34 3401 3402 3403 (keptS s1 (more.take k))) (fun k => more.length - k) 0 (by omega) (by (repeat' (first | exact trivial | exact rfl | (refine ⟨Or.inl rfl, ?_⟩) | (refine ⟨Or.inr rfl, ?_⟩) | (refine ⟨rfl, ?_⟩) | (refine ⟨?_, ?_⟩)))) ⟨rfl, rfl, rfl, rfl, trivial⟩ ?_
      intro k hkl
      by_cases hlt : k < more.length
      · obtain ⟨x, hx, _⟩ := drop_at hlt
        have hxm := List.mem_of_getElem? hx
        have hx1 := hf2 x hxm
        unfold fewA at hx1
        rw [decide_eq_true_eq] at hx1
        have hok2 := (keptS_all hok1 (more.take k)).1
        have hst : keptS s1 (more.take (k + 1)) = keepS (keptS s1 (more.take k)) x := by rw [take_at hx, keptS_snoc]
        generalize keptS s1 (more.take k) = t at hok2 hst ⊢
        by_cases hxa : x.a = bsK
        · have hq : keepS t x = t := by unfold keepS; rw [if_pos hxa]
          rw [hq] at hst
          have hcc : eqs x.a bsK = true := eqs_t.2 hxa
          repeat' (first | ((with_reducible refine gA ?_); (first | refine AW_seq ?_ | refine AW_region ?_ | (refine AW_cond rfl (fun hc => ?_) (fun hc => ?_) <;> try (exfalso; simp only [cmpL] at hc; omega)) | refine AW_block ?_ | refine AW_skip ?_)) | ((with_reducible refine gS ?_); refine Es_s (T := Try.tab) rfl rfl rfl rfl ?_) | (((with_reducible refine gS ?_); apply Es_q); rfl; rfl; (first | (refine LStep_add rfl rfl rfl rfl ?_; (refine IntWalk.i64_in _ ?_; first | omega | (simp only [cmps] at *; omega))) | (refine LStep_indexM (T := Try.tab) (c := ?_) rfl rfl rfl rfl rfl rfl ?_; rotate_left; assumption))) | (refine Es_skip rfl ?_ rfl ?_; (first | rfl | (refine w_tf ?_; assumption) | (refine w_ft ?_; assumption))) | (((with_reducible refine gS ?_); apply Es_xs); rfl; rfl; refine LStep_allocN (T := Try.tab) rfl rfl rfl rfl rfl rfl; rfl) | (((with_reducible refine gS ?_); apply Es_xn); rfl; rfl; (refine LStep_storeN (T := Try.tab) rfl rfl rfl rfl rfl rfl rfl ?_ rfl; (refine Nat.le_of_ble_eq_true ?_; rfl)); rfl) | (with_reducible refine Es_nil ?_) | (with_reducible refine then_n ?_) | (with_reducible refine block_n ?_))
          all_goals first
            | (exfalso; rw [show eqs x.a { data := #[107, 101, 112, 116] } = true from hcc] at hc; cases hc; done)
            | (refine ⟨k + 1, by omega, by omega, by (repeat' (first | exact trivial | exact rfl | (refine ⟨Or.inl rfl, ?_⟩) | (refine ⟨Or.inr rfl, ?_⟩) | (refine ⟨rfl, ?_⟩) | (refine ⟨?_, ?_⟩))), by (repeat' (first | exact trivial | exact rfl | (refine ⟨Or.inl rfl, ?_⟩) | (refine ⟨Or.inr rfl, ?_⟩) | (refine ⟨rfl, ?_⟩) | (refine ⟨?_, ?_⟩))), ?_, by (repeat' (first | exact trivial | exact rfl | (refine ⟨Or.inl rfl, ?_⟩) | (refine ⟨Or.inr rfl, ?_⟩) | (refine ⟨rfl, ?_⟩) | (refine ⟨?_, ?_⟩)))⟩; rw [hst]; (repeat' (first | exact trivial | exact rfl | (refine ⟨Or.inl rfl, ?_⟩) | (refine ⟨Or.inr rfl, ?_⟩) | (refine ⟨rfl, ?_⟩) | (refine ⟨?_, ?_⟩))))
        · have hq : keepS t x = doS t x := by unfold keepS; rw [if_neg hxa]
          rw [hq] at hst
          by_cases hg : grows t x
          · have cd := doOk_ac t x hok2 (hk2 x hxm) (by omega) hg
            have hP := doS_grows hg
            repeat' (first | ((with_reducible refine gA ?_); (first | refine AW_seq ?_ | refine AW_region ?_ | (refine AW_cond rfl (fun hc => ?_) (fun hc => ?_) <;> try (exfalso; simp only [cmpL] at hc; omega)) | refine AW_block ?_ | refine AW_skip ?_)) | ((with_reducible refine gS ?_); refine Es_s (T := Try.tab) rfl rfl rfl rfl ?_) | (((with_reducible refine gS ?_); apply Es_xg); rfl; rfl; refine LStep_callGN [1002] [(1000, 34), (1001, 3401), (1002, 3402), (1003, 3403)] [] cd rfl rfl ⟨rfl, rfl, rfl, rfl, trivial⟩ rfl ⟨trivial, trivial, hP, trivial, trivial⟩ rfl rfl; rfl) | (((with_reducible refine gS ?_); apply Es_q); rfl; rfl; (first | (refine LStep_add rfl rfl rfl rfl ?_; (refine IntWalk.i64_in _ ?_; first | omega | (simp only [cmps] at *; omega))) | (refine LStep_indexM (T := Try.tab) (c := ?_) rfl rfl rfl rfl rfl rfl ?_; rotate_left; assumption))) | (refine Es_skip rfl ?_ rfl ?_; (first | rfl | (refine w_tf ?_; assumption) | (refine w_ft ?_; assumption))) | (((with_reducible refine gS ?_); apply Es_xs); rfl; rfl; refine LStep_allocN (T := Try.tab) rfl rfl rfl rfl rfl rfl; rfl) | (((with_reducible refine gS ?_); apply Es_xn); rfl; rfl; (refine LStep_storeN (T := Try.tab) rfl rfl rfl rfl rfl rfl rfl ?_ rfl; (refine Nat.le_of_ble_eq_true ?_; rfl)); rfl) | (with_reducible refine Es_nil ?_) | (with_reducible refine then_n ?_) | (with_reducible refine block_n ?_))
            all_goals first
              | (exfalso; rw [show eqs x.a { data := #[107, 101, 112, 116] } = false from eqs_f.2 hxa] at hc; cases hc; done)
              | (refine ⟨k + 1, by omega, by omega, by (repeat' (first | exact trivial | exact rfl | (refine ⟨Or.inl rfl, ?_⟩) | (refine ⟨Or.inr rfl, ?_⟩) | (refine ⟨rfl, ?_⟩) | (refine ⟨?_, ?_⟩))), by (repeat' (first | exact trivial | exact rfl | (refine ⟨Or.inl rfl, ?_⟩) | (refine ⟨Or.inr rfl, ?_⟩) | (refine ⟨rfl, ?_⟩) | (refine ⟨?_, ?_⟩))), ?_, by (repeat' (first | exact trivial | exact rfl | (refine ⟨Or.inl rfl, ?_⟩) | (refine ⟨Or.inr rfl, ?_⟩) | (refine ⟨rfl, ?_⟩) | (refine ⟨?_, ?_⟩)))⟩; rw [hst]; (repeat' (first | exact trivial | exact rfl | (refine ⟨Or.inl rfl, ?_⟩) | (refine ⟨Or.inr rfl, ?_⟩) | (refine ⟨rfl, ?_⟩) | (refine ⟨?_, ?_⟩))))
          · have cd := doNo_ac t x hok2 (hk2 x hxm) hg
            have hP := congrArg (fun p => (p.map Post.enc).length) (doS_P hg).symm
            repeat' (first | ((with_reducible refine gA ?_); (first | refine AW_seq ?_ | refine AW_region ?_ | (refine AW_cond rfl (fun hc => ?_) (fun hc => ?_) <;> try (exfalso; simp only [cmpL] at hc; omega)) | refine AW_block ?_ | refine AW_skip ?_)) | ((with_reducible refine gS ?_); refine Es_s (T := Try.tab) rfl rfl rfl rfl ?_) | (((with_reducible refine gS ?_); apply Es_xg); rfl; rfl; refine LStep_callHN [(1000, 34), (1001, 3401), (1002, 3402), (1003, 3403)] [] cd rfl rfl ⟨rfl, rfl, rfl, rfl, trivial⟩ rfl ⟨trivial, trivial, hP, trivial, trivial⟩ rfl rfl; rfl) | (((with_reducible refine gS ?_); apply Es_q); rfl; rfl; (first | (refine LStep_add rfl rfl rfl rfl ?_; (refine IntWalk.i64_in _ ?_; first | omega | (simp only [cmps] at *; omega))) | (refine LStep_indexM (T := Try.tab) (c := ?_) rfl rfl rfl rfl rfl rfl ?_; rotate_left; assumption))) | (refine Es_skip rfl ?_ rfl ?_; (first | rfl | (refine w_tf ?_; assumption) | (refine w_ft ?_; assumption))) | (((with_reducible refine gS ?_); apply Es_xs); rfl; rfl; refine LStep_allocN (T := Try.tab) rfl rfl rfl rfl rfl rfl; rfl) | (((with_reducible refine gS ?_); apply Es_xn); rfl; rfl; (refine LStep_storeN (T := Try.tab) rfl rfl rfl rfl rfl rfl rfl ?_ rfl; (refine Nat.le_of_ble_eq_true ?_; rfl)); rfl) | (with_reducible refine Es_nil ?_) | (with_reducible refine then_n ?_) | (with_reducible refine block_n ?_))
            all_goals first
              | (exfalso; rw [show eqs x.a { data := #[107, 101, 112, 116] } = false from eqs_f.2 hxa] at hc; cases hc; done)
              | (refine ⟨k + 1, by omega, by omega, by (repeat' (first | exact trivial | exact rfl | (refine ⟨Or.inl rfl, ?_⟩) | (refine ⟨Or.inr rfl, ?_⟩) | (refine ⟨rfl, ?_⟩) | (refine ⟨?_, ?_⟩))), by (repeat' (first | exact trivial | exact rfl | (refine ⟨Or.inl rfl, ?_⟩) | (refine ⟨Or.inr rfl, ?_⟩) | (refine ⟨rfl, ?_⟩) | (refine ⟨?_, ?_⟩))), ?_, by (repeat' (first | exact trivial | exact rfl | (refine ⟨Or.inl rfl, ?_⟩) | (refine ⟨Or.inr rfl, ?_⟩) | (refine ⟨rfl, ?_⟩) | (refine ⟨?_, ?_⟩)))⟩; rw [hst]; (repeat' (first | exact trivial | exact rfl | (refine ⟨Or.inl rfl, ?_⟩) | (refine ⟨Or.inr rfl, ?_⟩) | (refine ⟨rfl, ?_⟩) | (refine ⟨?_, ?_⟩))))
      have : k = more.length := by omega
      subst this
      rw [List.take_length]
      obtain ⟨hok2, hH2, hP2⟩ := keptS_all hok1 more
      rw [hH] at hH2
      have hP2 : (keptS s1 more).P.length ≤ 80 := by omega
      generalize keptS s1 more = s2 at *
      clear hf2 hk hk2 c3 p1 cf cg cp
      have c4 := open_ac s2 bsS bsE 0 (by have := hok2.lA; omega)
      have p4 : (s2.P.map Post.enc).length = ((openS s2 bsS bsE 0).1.P.map Post.enc).length := by rw [openS_P]
      have hor := openE_or s2
      by_cases h7 : (openS s2 bsS bsE 0).2 = 7
      · rw [h7] at c4
        generalize (openS s2 bsS bsE 0).1 = s3 at *
        repeat' (first | ((with_reducible refine gA ?_); (first | refine AW_seq ?_ | refine AW_region ?_ | refine AW_condF rfl ?_ | (refine AW_cond rfl (fun hc => ?_) (fun hc => ?_) <;> try (exfalso; simp only [cmpL] at hc; omega)) | refine AW_ret ?_ | refine AW_skip ?_ | refine AW_exit ?_)) | ((with_reducible refine gS ?_); refine Es_s (T := Try.tab) rfl rfl rfl rfl ?_) | (((with_reducible refine gS ?_); apply Es_xg); rfl; (first | rfl | (refine w_tt ?_; assumption)); refine LStep_callHN [(1000, 34), (1001, 3401), (1002, 3402), (1003, 3403)] [] c4 rfl rfl ⟨rfl, rfl, rfl, rfl, trivial⟩ rfl ⟨trivial, trivial, p4, trivial, trivial⟩ rfl rfl; rfl) | (((with_reducible refine gS ?_); apply Es_q); rfl; (first | rfl | (refine w_tt ?_; assumption)); (first | refine LStep_simp (T := Try.tab) rfl rfl | (refine LStep_pickT rfl rfl ?_ rfl rfl; assumption) | (refine LStep_pickF rfl rfl ?_ rfl rfl; assumption))) | (refine Es_skip rfl ?_ rfl ?_; (first | rfl | (refine w_tf ?_; assumption) | (refine w_ft ?_; assumption))) | (refine Es_split rfl ?_ (fun _ => ?_) (fun _ => ?_); ((fail_if_success (refine und_t ?_; assumption)); (fail_if_success (refine und_f ?_; assumption)); exact trivial)) | (with_reducible refine Es_nil ?_) | (with_reducible refine then_n ?_) | (with_reducible refine then_r ?_) | (with_reducible refine then_e ?_) | ((with_reducible refine block_e ?_ ?_); rfl) | ((with_reducible refine gR ?_); first | refine ret1 rfl ?_ | refine ret2 rfl rfl ?_ | refine ret0 ?_ | refine end1 rfl ?_ | refine end0 ?_))
        all_goals first
          | rfl
          | (simp [eqb]; done)
          | (exfalso; simp [eqb] at *; done)
      · have h05 : (openS s2 bsS bsE 0).2 = 0 ∨ (openS s2 bsS bsE 0).2 = 5 := by omega
        have ha := open_has h05
        have hok3 := openS_ok hok2 bsS bsE 0
        have hH3 : aget bsK (openS s2 bsS bsE 0).1.H = some ⟨bsK, bsA, bsE, m⟩ := by rw [open_H]; exact hH2
        have hP3 : (openS s2 bsS bsE 0).1.P.length ≤ 80 := by rw [openS_P]; exact hP2
        generalize (openS s2 bsS bsE 0).1 = s3 at *
        generalize (openS s2 bsS bsE 0).2 = e3 at *
        have c5 := balance_ac s3 bsS bsE
        by_cases hb : wrp .i64 (balS s3 (bsS, bsE) + m) ≤ 1099511627776
        · obtain ⟨d1, d2, d3, d4⟩ := take_does hok3 hm1 hH3 ha (by omega) hb
          have c6 := balance_ac s3 bsA bsE
          have c7 := takeOk_ac s3 bsK bsS m hok3.nA (by decide) (fun q hq => ⟨(hok3.hold _ _ hq).2.1, (hok3.hold _ _ hq).2.2.2⟩) d1
          have p7 := take_grows d1
          have hok4 := takeS_ok hok3 d1
          generalize takeS s3 bsK bsS m = s4 at *
          have c8 := balance_ac s4 bsS bsE
          have c9 := balance_ac s4 bsA bsE
          have c10 := let_ac s4 bsK (fun q hq => (hok4.hold _ _ hq).2.1)
          rw [d2] at c8
          rw [d3] at c9
          rw [letS_none d4, d4] at c10
          repeat' (first | ((with_reducible refine gA ?_); (first | refine AW_seq ?_ | refine AW_region ?_ | refine AW_condF rfl ?_ | (refine AW_cond rfl (fun hc => ?_) (fun hc => ?_) <;> try (exfalso; simp only [cmpL] at hc; omega)) | refine AW_ret ?_ | refine AW_skip ?_ | refine AW_exit ?_)) | ((with_reducible refine gS ?_); refine Es_s (T := Try.tab) rfl rfl rfl rfl ?_) | (((with_reducible refine gS ?_); apply Es_xg); rfl; (first | rfl | (refine w_tt ?_; assumption)); (first | refine LStep_callHN [(1000, 34), (1001, 3401), (1002, 3402), (1003, 3403)] [] c4 rfl rfl ⟨rfl, rfl, rfl, rfl, trivial⟩ rfl ⟨trivial, trivial, p4, trivial, trivial⟩ rfl rfl | refine LStep_callHN [(1000, 34), (1001, 3401), (1002, 3402), (1003, 3403)] [] c5 rfl rfl ⟨rfl, rfl, rfl, rfl, trivial⟩ rfl ⟨trivial, trivial, rfl, trivial, trivial⟩ rfl rfl | refine LStep_callHN [(1000, 34), (1001, 3401), (1002, 3402), (1003, 3403)] [] c6 rfl rfl ⟨rfl, rfl, rfl, rfl, trivial⟩ rfl ⟨trivial, trivial, rfl, trivial, trivial⟩ rfl rfl | refine LStep_callGN [1002] [(1000, 34), (1001, 3401), (1002, 3402), (1003, 3403)] [] c7 rfl rfl ⟨rfl, rfl, rfl, rfl, trivial⟩ rfl ⟨trivial, trivial, p7, trivial, trivial⟩ rfl rfl | refine LStep_callHN [(1000, 34), (1001, 3401), (1002, 3402), (1003, 3403)] [] c8 rfl rfl ⟨rfl, rfl, rfl, rfl, trivial⟩ rfl ⟨trivial, trivial, rfl, trivial, trivial⟩ rfl rfl | refine LStep_callHN [(1000, 34), (1001, 3401), (1002, 3402), (1003, 3403)] [] c9 rfl rfl ⟨rfl, rfl, rfl, rfl, trivial⟩ rfl ⟨trivial, trivial, rfl, trivial, trivial⟩ rfl rfl | refine LStep_callHN [(1000, 34), (1001, 3401), (1002, 3402), (1003, 3403)] [] c10 rfl rfl ⟨rfl, rfl, rfl, rfl, trivial⟩ rfl ⟨trivial, trivial, rfl, trivial, trivial⟩ rfl rfl); rfl) | (((with_reducible refine gS ?_); apply Es_q); rfl; (first | rfl | (refine w_tt ?_; assumption)); (first | refine LStep_simp (T := Try.tab) rfl rfl | refine LStep_wrap (T := Try.tab) rfl rfl | (refine LStep_pickT rfl rfl ?_ rfl rfl; assumption) | (refine LStep_pickF rfl rfl ?_ rfl rfl; assumption))) | (refine Es_skip rfl ?_ rfl ?_; (first | rfl | (refine w_tf ?_; assumption) | (refine w_ft ?_; assumption))) | (refine Es_split rfl ?_ (fun _ => ?_) (fun _ => ?_); ((fail_if_success (refine und_t ?_; assumption)); (fail_if_success (refine und_f ?_; assumption)); exact trivial)) | (with_reducible refine Es_nil ?_) | (with_reducible refine then_n ?_) | (with_reducible refine then_r ?_) | (with_reducible refine then_e ?_) | ((with_reducible refine block_e ?_ ?_); rfl) | ((with_reducible refine gR ?_); first | refine ret1 rfl ?_ | refine ret2 rfl rfl ?_ | refine ret0 ?_ | refine end1 rfl ?_ | refine end0 ?_))
          all_goals clear c4 c5 p4
          all_goals first
            | rfl
            | (simp [eqb]; done)
            | (simp only [cmps] at *; exfalso; omega)
            | (exfalso; simp [eqb] at *; omega)
        · repeat' (first | ((with_reducible refine gA ?_); (first | refine AW_seq ?_ | refine AW_region ?_ | refine AW_condF rfl ?_ | (refine AW_cond rfl (fun hc => ?_) (fun hc => ?_) <;> try (exfalso; simp only [cmpL] at hc; omega)) | refine AW_ret ?_ | refine AW_skip ?_ | refine AW_exit ?_)) | ((with_reducible refine gS ?_); refine Es_s (T := Try.tab) rfl rfl rfl rfl ?_) | (((with_reducible refine gS ?_); apply Es_xg); rfl; (first | rfl | (refine w_tt ?_; assumption)); (first | refine LStep_callHN [(1000, 34), (1001, 3401), (1002, 3402), (1003, 3403)] [] c4 rfl rfl ⟨rfl, rfl, rfl, rfl, trivial⟩ rfl ⟨trivial, trivial, p4, trivial, trivial⟩ rfl rfl | refine LStep_callHN [(1000, 34), (1001, 3401), (1002, 3402), (1003, 3403)] [] c5 rfl rfl ⟨rfl, rfl, rfl, rfl, trivial⟩ rfl ⟨trivial, trivial, rfl, trivial, trivial⟩ rfl rfl); rfl) | (((with_reducible refine gS ?_); apply Es_q); rfl; (first | rfl | (refine w_tt ?_; assumption)); (first | refine LStep_simp (T := Try.tab) rfl rfl | refine LStep_wrap (T := Try.tab) rfl rfl | (refine LStep_pickT rfl rfl ?_ rfl rfl; assumption) | (refine LStep_pickF rfl rfl ?_ rfl rfl; assumption))) | (refine Es_skip rfl ?_ rfl ?_; (first | rfl | (refine w_tf ?_; assumption) | (refine w_ft ?_; assumption))) | (refine Es_split rfl ?_ (fun _ => ?_) (fun _ => ?_); ((fail_if_success (refine und_t ?_; assumption)); (fail_if_success (refine und_f ?_; assumption)); exact trivial)) | (with_reducible refine Es_nil ?_) | (with_reducible refine then_n ?_) | (with_reducible refine then_r ?_) | (with_reducible refine then_e ?_) | ((with_reducible refine block_e ?_ ?_); rfl) | ((with_reducible refine gR ?_); first | refine ret1 rfl ?_ | refine ret2 rfl rfl ?_ | refine ret0 ?_ | refine end1 rfl ?_ | refine end0 ?_))
          all_goals clear c4 c5 p4
          all_goals first
            | rfl
            | (simp [eqb]; done)
            | (simp only [cmps] at *; exfalso; omega)
            | (exfalso; simp [eqb] at *; omega)
    · generalize holdE s bsK bsA bsE m = e at *
      refine AC_enter Try.func3 rfl Try.ntmps3 (rv := [.tmp 6]) rfl rfl (by simp) (fun w X G => ?_)
      repeat' (first | ((with_reducible refine gA ?_); (first | refine AW_seq ?_ | refine AW_region ?_ | refine AW_condF rfl ?_ | (refine AW_cond rfl (fun hc => ?_) (fun hc => ?_) <;> try (exfalso; simp only [cmpL] at hc; omega)) | refine AW_ret ?_ | refine AW_skip ?_)) | ((with_reducible refine gS ?_); refine Es_s (T := Try.tab) rfl rfl rfl rfl ?_) | (((with_reducible refine gS ?_); apply Es_q); rfl; rfl; (first | refine LStep_call (awake_ac) rfl rfl rfl rfl | refine LStep_call (cf) rfl rfl rfl rfl | refine LStep_call (cg) rfl rfl rfl rfl)) | (((with_reducible refine gS ?_); apply Es_xg); rfl; rfl; (first | refine LStep_callHN [] [(5, 34), (5001, 3401), (5002, 3402), (5003, 3403)] cp rfl rfl trivial rfl trivial rfl rfl | refine LStep_callHN [(1000, 34), (1001, 3401), (1002, 3402), (1003, 3403)] [] c3 rfl rfl ⟨rfl, rfl, rfl, rfl, trivial⟩ rfl ⟨trivial, trivial, p1, trivial, trivial⟩ rfl rfl); rfl) | (((with_reducible refine gS ?_); apply Es_q); rfl; rfl; refine LStep_simp (T := Try.tab) rfl rfl) | (with_reducible refine Es_nil ?_) | (with_reducible refine then_n ?_) | (with_reducible refine then_r ?_) | ((with_reducible refine gR ?_); first | refine ret1 rfl ?_ | refine ret2 rfl rfl ?_ | refine ret0 ?_ | refine end1 rfl ?_ | refine end0 ?_))
      all_goals first
        | rfl
        | (exfalso; simp [eqb] at *; done)
end Go.Proofs.Ytbekoielblcbmaa
