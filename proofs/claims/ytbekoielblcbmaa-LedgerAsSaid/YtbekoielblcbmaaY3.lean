import Derived.Test.YtbekoielblcbmaaY2
namespace Go.Proofs.Ytbekoielblcbmaa
open Go.SL
/-! ### ledgers that stand alike -/
theorem sorted_eq {α : Type} {lt : α → α → Bool} : ∀ {l1 l2 : List α}, l1.Perm l2 → l1.Pairwise (fun x y => lt y x = false) → l2.Pairwise (fun x y => lt y x = false) → (∀ x ∈ l1, ∀ y ∈ l1, lt x y = false → lt y x = false → x = y) → l1 = l2
  | [], l2, hp, _, _, _ => (List.nil_perm.1 hp).symm
  | a :: l1, [], hp, _, _, _ => by simpa using hp.length_eq
  | a :: l1, b :: l2, hp, h1, h2, ha => by
    rw [List.pairwise_cons] at h1 h2
    have hab : a = b := by
      have ma : a ∈ b :: l2 := hp.mem_iff.1 List.mem_cons_self
      have mb : b ∈ a :: l1 := hp.mem_iff.2 List.mem_cons_self
      rcases List.mem_cons.1 ma with e | e
      · exact e
      rcases List.mem_cons.1 mb with e' | e'
      · exact e'.symm
      exact ha a List.mem_cons_self b mb (h2.1 a e) (h1.1 b e')
    subst hab
    rw [sorted_eq (hp.cons_inv) h1.2 h2.2 (fun x hx y hy => ha x (List.mem_cons_of_mem _ hx) y (List.mem_cons_of_mem _ hy))]
theorem aget_perm {κ α : Type} [DecidableEq κ] {l m : List (κ × α)} (h : l.Perm m) (hn : (akeys l).Nodup) (k : κ) : aget k l = aget k m := by
  have hm : (akeys m).Nodup := (h.map Prod.fst).nodup_iff.1 hn
  cases hq : aget k l with
  | some c => exact (aget_of_mem hm (h.mem_iff.1 (aget_mem hq))).symm
  | none =>
    rw [aget_none] at hq
    symm
    rw [aget_none]
    intro hk
    exact hq ((h.map Prod.fst).mem_iff.2 hk)
structure Led.Eqv (s t : Led) : Prop where
  A : s.A.Perm t.A
  P : s.P = t.P
  H : s.H.Perm t.H
theorem Led.Eqv.refl (s : Led) : s.Eqv s := ⟨List.Perm.refl _, rfl, List.Perm.refl _⟩
theorem Led.Eqv.symm {s t : Led} (h : s.Eqv t) : t.Eqv s := ⟨h.A.symm, h.P.symm, h.H.symm⟩
theorem Led.Eqv.trans {s t u : Led} (h : s.Eqv t) (k : t.Eqv u) : s.Eqv u := ⟨h.A.trans k.A, h.P.trans k.P, h.H.trans k.H⟩
theorem Led.Eqv.ok {s t : Led} (h : s.Eqv t) (hs : s.Ok) : t.Ok :=
  ⟨(h.A.map Prod.fst).nodup_iff.1 hs.nA, (h.H.map Prod.fst).nodup_iff.1 hs.nH, by rw [← h.A.length_eq]; exact hs.lA, by rw [← h.P]; exact hs.lP, by rw [← h.H.length_eq]; exact hs.lH,
    fun id x e => by
      rw [← aget_perm h.H hs.nH] at e
      rw [← aget_perm h.A hs.nA]
      exact hs.hold id x e⟩
theorem hids {s : Led} (hs : s.Ok) : idInj (mvals s.H) := by
  intro x hx y hy e
  obtain ⟨p, hp, rfl⟩ := List.mem_map.1 hx
  obtain ⟨q, hq, rfl⟩ := List.mem_map.1 hy
  have e1 := aget_of_mem hs.nH (k := p.1) (c := p.2) hp
  have e2 := aget_of_mem hs.nH (k := q.1) (c := q.2) hq
  have h1 := (hs.hold _ _ e1).1
  have h2 := (hs.hold _ _ e2).1
  have : p.1 = q.1 := by rw [← h1, ← h2]; exact e
  rw [this, e2] at e1
  exact (Option.some.inj e1).symm
theorem eqv_holds {s t : Led} (h : s.Eqv t) (hs : s.Ok) : hsort (mvals s.H) = hsort (mvals t.H) := by
  have hp : (mvals s.H).Perm (mvals t.H) := h.H.map _
  refine sorted_eq (lt := fun x y : Hld => lts x.id y.id) (((hsort_perm _).trans hp).trans (hsort_perm _).symm) (hsort_sorted _) (hsort_sorted _) (fun x hx y hy h1 h2 => ?_)
  exact hids hs x ((hsort_perm _).mem_iff.1 hx) y ((hsort_perm _).mem_iff.1 hy) (lts_tri h1 h2)
theorem eqv_accs {s t : Led} (h : s.Eqv t) (hs : s.Ok) : accsS s = accsS t := by
  have hp : (s.A.map entOf).Perm (t.A.map entOf) := h.A.map _
  refine sorted_eq (lt := entLt) (((esort_perm _).trans hp).trans (esort_perm _).symm) (esort_sorted _) (esort_sorted _) (fun x hx y hy h1 h2 => ?_)
  obtain ⟨p, hp1, rfl⟩ := List.mem_map.1 ((esort_perm _).mem_iff.1 hx)
  obtain ⟨q, hq1, rfl⟩ := List.mem_map.1 ((esort_perm _).mem_iff.1 hy)
  obtain ⟨e1, e2⟩ := lt2_tri h1 h2
  rw [entOf_inj hs.nA hp1 hq1 e1 e2]
theorem eqv_fr {s t : Led} (h : s.Eqv t) (hs : s.Ok) (k : K2) : frS t k = frS s k := by unfold frS; rw [aget_perm h.A hs.nA]
theorem eqS_hold : eqS Try.tab 8 67 = some [2, 2, 2, 1] := by kernel_rfl
theorem eqG_hold : Try.prog.eqGuardType Try.prog.depth 67 = false := by kernel_rfl
set_option maxRecDepth 20000 in
set_option maxHeartbeats 4000000 in
theorem alike_ac (s t : Led) (hs : s.Ok) (hE : s.Eqv t) (he : ∀ p ∈ s.P, p.entries.length ≤ 1048576) : AC Try.prog 30 [.ptr 1000 0, .ptr 1100 0] (hL s ++ hLn 1100 1101 1102 1103 t) [1000, 1001, 1002, 1003, 1100, 1101, 1102, 1103]
    (fun r h' => r = .d (.sc (.bool true)) ∧ SubH (hL s ++ hLn 1100 1101 1102 1103 t) h') := by
  have ht := hE.ok hs
  have hlP := hs.lP
  have hlH := hs.lH
  have hlA := hs.lA
  have a1 := accounts_ac s hs
  have a2 := accounts_ac t ht
  have b1 := holds_ac s hs.nH (by omega) (hids hs)
  have b2 := holds_ac t ht.nH (by have := ht.lH; omega) (hids ht)
  have c1 := lposts_ac s (by omega) he
  have c2 := lposts_ac t (by rw [← hE.P]; omega) (by rw [← hE.P]; exact he)
  rw [← eqv_accs hE hs] at a2
  rw [← eqv_holds hE hs] at b2
  rw [← hE.P] at c2
  have la : (accsS s).length ≤ 4096 := by rw [accsS, (esort_perm _).length_eq, List.length_map]; omega
  have lh : (hsort (mvals s.H)).length ≤ 4096 := by rw [(hsort_perm _).length_eq]; simpa [mvals] using hlH
  have hfr := eqv_fr hE hs
  generalize accsS s = A at *
  generalize hsort (mvals s.H) = Hs at *
  have ce := rsameE_ac A A (by omega)
  rw [eleq_iff.2 rfl] at ce
  refine AC_enter Try.func30 rfl Try.ntmps30 (rv := [.tmp 4]) rfl rfl (by simp) (fun w X G => ?_)
  repeat' (first | ((with_reducible refine gA ?_); (first | refine AW_seq ?_ | refine AW_region ?_ | refine AW_condT rfl ?_ | (refine AW_cond rfl (fun hc => ?_) (fun hc => ?_) <;> try (exfalso; simp only [cmpL] at hc; omega)) | refine AW_block ?_ | refine AW_ret ?_ | refine AW_skip ?_)) | ((with_reducible refine gS ?_); refine Es_s (T := Try.tab) rfl rfl rfl rfl ?_) | (((with_reducible refine gS ?_); apply Es_q); rfl; (first | rfl | (refine w_ff ?_; assumption)); refine LStep_call (ce) rfl rfl rfl rfl) | (((with_reducible refine gS ?_); apply Es_xg); rfl; (first | rfl | (refine w_ff ?_; assumption)); (first | refine LStep_callHN [] [] a1 rfl rfl ⟨rfl, rfl, rfl, rfl, trivial⟩ rfl ⟨trivial, trivial, rfl, trivial, trivial⟩ rfl rfl | refine LStep_callHN [(1000, 1100), (1001, 1101), (1002, 1102), (1003, 1103)] [] a2 rfl rfl ⟨rfl, rfl, rfl, rfl, trivial⟩ rfl ⟨trivial, trivial, rfl, trivial, trivial⟩ rfl rfl | refine LStep_callHN [] [] b1 rfl rfl ⟨rfl, rfl, rfl, rfl, trivial⟩ rfl ⟨trivial, trivial, rfl, trivial, trivial⟩ rfl rfl | refine LStep_callHN [(1000, 1100), (1001, 1101), (1002, 1102), (1003, 1103)] [] b2 rfl rfl ⟨rfl, rfl, rfl, rfl, trivial⟩ rfl ⟨trivial, trivial, rfl, trivial, trivial⟩ rfl rfl | refine LStep_callHN [] [] c1 rfl rfl ⟨rfl, rfl, rfl, rfl, trivial⟩ rfl ⟨trivial, trivial, rfl, trivial, trivial⟩ rfl rfl | refine LStep_callHN [(1000, 1100), (1001, 1101), (1002, 1102), (1003, 1103)] [] c2 rfl rfl ⟨rfl, rfl, rfl, rfl, trivial⟩ rfl ⟨trivial, trivial, rfl, trivial, trivial⟩ rfl rfl); rfl) | (((with_reducible refine gS ?_); apply Es_q); rfl; (first | rfl | (refine w_ff ?_; assumption)); (first | refine LStep_simp (T := Try.tab) rfl rfl | refine LStep_lenM (T := Try.tab) rfl rfl rfl rfl | (refine LStep_pickT rfl rfl ?_ rfl rfl; assumption) | (refine LStep_pickF rfl rfl ?_ rfl rfl; assumption))) | (refine Es_skip rfl ?_ rfl ?_; (first | rfl | (refine w_tf ?_; assumption) | (refine w_ft ?_; assumption))) | (refine Es_split rfl ?_ (fun _ => ?_) (fun _ => ?_); ((fail_if_success (refine und_t ?_; assumption)); (fail_if_success (refine und_f ?_; assumption)); exact trivial)) | (with_reducible refine Es_nil ?_) | (with_reducible refine then_n ?_) | (with_reducible refine then_r ?_) | ((with_reducible refine gR ?_); first | refine ret1 rfl ?_ | refine ret2 rfl rfl ?_ | refine ret0 ?_ | refine end1 rfl ?_ | refine end0 ?_))
  all_goals first
    | (exfalso; simp [eqb] at *; done)
    | skip
  clear a1 a2 b1 b2 c1 c2 ce
  -- holds
  refine AW_forE (S := Nat) (fun k => k ≤ Hs.length) (fun k => [(50, .d (.sc (.int .i64 (k : Nat))))]) (fun _ => []) (fun k => Hs.length - k) 0 (by omega) (by (repeat' (first | exact trivial | exact rfl | (refine ⟨Or.inl rfl, ?_⟩) | (refine ⟨Or.inr rfl, ?_⟩) | (refine ⟨Or.inr trivial, ?_⟩) | (refine ⟨rfl, ?_⟩) | (refine ⟨?_, ?_⟩)))) (by (repeat' (first | exact trivial | exact rfl | (refine ⟨Or.inl rfl, ?_⟩) | (refine ⟨Or.inr rfl, ?_⟩) | (refine ⟨Or.inr trivial, ?_⟩) | (refine ⟨rfl, ?_⟩) | (refine ⟨?_, ?_⟩)))) ?_
  intro k hk
  by_cases hlt : k < Hs.length
  · obtain ⟨x, hx, _⟩ := drop_at hlt
    repeat' (first | ((with_reducible refine gA ?_); (first | refine AW_seq ?_ | refine AW_region ?_ | refine AW_regionD Try.mixed ?_ | (refine AW_cond rfl (fun hc => ?_) (fun hc => ?_) <;> try (exfalso; simp only [cmpL] at hc; omega)) | refine AW_block ?_ | refine AW_ret ?_ | refine AW_skip ?_)) | (first | ((with_reducible refine gS ?_); refine Es_s (T := Try.tab) rfl rfl rfl rfl ?_) | ((with_reducible refine gD ?_); refine Ed_s (T := Try.tab) rfl rfl rfl rfl ?_)) | ((first | ((with_reducible refine gS ?_); apply Es_q) | ((with_reducible refine gD ?_); apply Ed_q)); rfl; rfl; refine LStep_neqAgg (T := Try.tab) eqS_hold eqG_hold (by omega) rfl rfl rfl rfl rfl rfl) | ((first | ((with_reducible refine gS ?_); apply Es_q) | ((with_reducible refine gD ?_); apply Ed_q)); rfl; rfl; (first | (refine LStep_add rfl rfl rfl rfl ?_; (refine IntWalk.i64_in _ ?_; first | omega | (simp only [cmps] at *; omega))) | (refine LStep_indexM (T := Try.tab) (c := ?_) rfl rfl rfl rfl rfl rfl ?_; rotate_left; assumption))) | (with_reducible refine Es_nil ?_) | ((with_reducible refine Ed_nil ?_ ?_); kernel_rfl) | (with_reducible refine then_n ?_) | (with_reducible refine then_r ?_) | (with_reducible refine block_n ?_) | (with_reducible refine block_r ?_) | ((with_reducible refine gR ?_); first | refine ret1 rfl ?_ | refine ret2 rfl rfl ?_ | refine ret0 ?_ | refine end1 rfl ?_ | refine end0 ?_))
    all_goals first
      | (exfalso; simp [eqb, eqs] at *; done)
      | exact ⟨k + 1, by omega, by omega, by (repeat' (first | exact trivial | exact rfl | (refine ⟨Or.inl rfl, ?_⟩) | (refine ⟨Or.inr rfl, ?_⟩) | (refine ⟨Or.inr trivial, ?_⟩) | (refine ⟨rfl, ?_⟩) | (refine ⟨?_, ?_⟩))), by (repeat' (first | exact trivial | exact rfl | (refine ⟨Or.inl rfl, ?_⟩) | (refine ⟨Or.inr rfl, ?_⟩) | (refine ⟨Or.inr trivial, ?_⟩) | (refine ⟨rfl, ?_⟩) | (refine ⟨?_, ?_⟩))), by (repeat' (first | exact trivial | exact rfl | (refine ⟨Or.inl rfl, ?_⟩) | (refine ⟨Or.inr rfl, ?_⟩) | (refine ⟨Or.inr trivial, ?_⟩) | (refine ⟨rfl, ?_⟩) | (refine ⟨?_, ?_⟩))), by (repeat' (first | exact trivial | exact rfl | (refine ⟨Or.inl rfl, ?_⟩) | (refine ⟨Or.inr rfl, ?_⟩) | (refine ⟨Or.inr trivial, ?_⟩) | (refine ⟨rfl, ?_⟩) | (refine ⟨?_, ?_⟩)))⟩
  have : k = Hs.length := by omega
  subst this
  clear hlt hk
  repeat' (first | ((with_reducible refine gA ?_); (first | refine AW_seq ?_ | refine AW_region ?_ | (refine AW_cond rfl (fun hc => ?_) (fun hc => ?_) <;> try (exfalso; simp only [cmpL] at hc; omega)) | refine AW_block ?_ | refine AW_exit ?_)) | ((with_reducible refine gS ?_); refine Es_s (T := Try.tab) rfl rfl rfl rfl ?_) | (((with_reducible refine gS ?_); apply Es_q); rfl; rfl; refine LStep_lenM (T := Try.tab) rfl rfl rfl rfl) | (with_reducible refine Es_nil ?_) | (with_reducible refine then_n ?_) | (with_reducible refine then_e ?_) | ((with_reducible refine block_e ?_ ?_); rfl))
  -- posts
  refine AW_forE (S := Nat) (fun k => k ≤ s.P.length) (fun k => [(65, .d (.sc (.int .i64 (k : Nat))))]) (fun _ => []) (fun k => s.P.length - k) 0 (by omega) (by (repeat' (first | exact trivial | exact rfl | (refine ⟨Or.inl rfl, ?_⟩) | (refine ⟨Or.inr rfl, ?_⟩) | (refine ⟨Or.inr trivial, ?_⟩) | (refine ⟨rfl, ?_⟩) | (refine ⟨?_, ?_⟩)))) (by (repeat' (first | exact trivial | exact rfl | (refine ⟨Or.inl rfl, ?_⟩) | (refine ⟨Or.inr rfl, ?_⟩) | (refine ⟨Or.inr trivial, ?_⟩) | (refine ⟨rfl, ?_⟩) | (refine ⟨?_, ?_⟩)))) ?_
  intro k hk
  by_cases hlt : k < s.P.length
  · obtain ⟨p, hp, _⟩ := drop_at hlt
    have ce := rsameE_ac p.entries p.entries (by have := he p (List.mem_of_getElem? hp); omega)
    rw [eleq_iff.2 rfl] at ce
    repeat' (first | ((with_reducible refine gA ?_); (first | refine AW_seq ?_ | refine AW_region ?_ | refine AW_regionD Try.mixed ?_ | refine AW_condT rfl ?_ | refine AW_condF rfl ?_ | (refine AW_cond rfl (fun hc => ?_) (fun hc => ?_) <;> try (exfalso; simp only [cmpL] at hc; omega)) | refine AW_block ?_ | refine AW_ret ?_ | refine AW_skip ?_)) | (first | ((with_reducible refine gS ?_); refine Es_s (T := Try.tab) rfl rfl rfl rfl ?_) | ((with_reducible refine gD ?_); refine Ed_s (T := Try.tab) rfl rfl rfl rfl ?_)) | ((first | ((with_reducible refine gS ?_); apply Es_q) | ((with_reducible refine gD ?_); apply Ed_q)); rfl; (first | rfl | (refine w_ff ?_; assumption)); refine LStep_call (ce) rfl rfl rfl rfl) | ((first | ((with_reducible refine gS ?_); apply Es_q) | ((with_reducible refine gD ?_); apply Ed_q)); rfl; (first | rfl | (refine w_ff ?_; assumption)); (first | refine LStep_simp (T := Try.tab) rfl rfl | (refine LStep_add rfl rfl rfl rfl ?_; (refine IntWalk.i64_in _ ?_; first | omega | (simp only [cmps] at *; omega))) | (refine LStep_pickT rfl rfl ?_ rfl rfl; assumption) | (refine LStep_pickF rfl rfl ?_ rfl rfl; assumption) | (refine LStep_indexM (T := Try.tab) (c := ?_) rfl rfl rfl rfl rfl rfl ?_; rotate_left; assumption))) | (refine Ed_skip rfl ?_ rfl ?_; (first | rfl | (refine w_tf ?_; assumption) | (refine w_ft ?_; assumption))) | (refine Ed_split rfl ?_ (fun _ => ?_) (fun _ => ?_); ((fail_if_success (refine und_t ?_; assumption)); (fail_if_success (refine und_f ?_; assumption)); exact trivial)) | (with_reducible refine Es_nil ?_) | ((with_reducible refine Ed_nil ?_ ?_); kernel_rfl) | (with_reducible refine then_n ?_) | (with_reducible refine then_r ?_) | (with_reducible refine block_n ?_) | (with_reducible refine block_r ?_) | ((with_reducible refine gR ?_); first | refine ret1 rfl ?_ | refine ret2 rfl rfl ?_ | refine ret0 ?_ | refine end1 rfl ?_ | refine end0 ?_))
    all_goals first
      | (exfalso; simp [eqb, eqs] at *; done)
      | exact ⟨k + 1, by omega, by omega, by (repeat' (first | exact trivial | exact rfl | (refine ⟨Or.inl rfl, ?_⟩) | (refine ⟨Or.inr rfl, ?_⟩) | (refine ⟨Or.inr trivial, ?_⟩) | (refine ⟨rfl, ?_⟩) | (refine ⟨?_, ?_⟩))), by (repeat' (first | exact trivial | exact rfl | (refine ⟨Or.inl rfl, ?_⟩) | (refine ⟨Or.inr rfl, ?_⟩) | (refine ⟨Or.inr trivial, ?_⟩) | (refine ⟨rfl, ?_⟩) | (refine ⟨?_, ?_⟩))), by (repeat' (first | exact trivial | exact rfl | (refine ⟨Or.inl rfl, ?_⟩) | (refine ⟨Or.inr rfl, ?_⟩) | (refine ⟨Or.inr trivial, ?_⟩) | (refine ⟨rfl, ?_⟩) | (refine ⟨?_, ?_⟩))), by (repeat' (first | exact trivial | exact rfl | (refine ⟨Or.inl rfl, ?_⟩) | (refine ⟨Or.inr rfl, ?_⟩) | (refine ⟨Or.inr trivial, ?_⟩) | (refine ⟨rfl, ?_⟩) | (refine ⟨?_, ?_⟩)))⟩
  have : k = s.P.length := by omega
  subst this
  clear hlt hk
  repeat' (first | ((with_reducible refine gA ?_); (first | refine AW_seq ?_ | refine AW_region ?_ | (refine AW_cond rfl (fun hc => ?_) (fun hc => ?_) <;> try (exfalso; simp only [cmpL] at hc; omega)) | refine AW_block ?_ | refine AW_exit ?_)) | ((with_reducible refine gS ?_); refine Es_s (T := Try.tab) rfl rfl rfl rfl ?_) | (((with_reducible refine gS ?_); apply Es_q); rfl; rfl; refine LStep_lenM (T := Try.tab) rfl rfl rfl rfl) | (with_reducible refine Es_nil ?_) | (with_reducible refine then_n ?_) | (with_reducible refine then_e ?_) | ((with_reducible refine block_e ?_ ?_); rfl))
  -- what is free
  refine AW_forE (S := Nat) (fun k => k ≤ A.length) (fun k => [(109, .d (.sc (.int .i64 (k : Nat))))]) (fun _ => []) (fun k => A.length - k) 0 (by omega) (by (repeat' (first | exact trivial | exact rfl | (refine ⟨Or.inl rfl, ?_⟩) | (refine ⟨Or.inr rfl, ?_⟩) | (refine ⟨Or.inr trivial, ?_⟩) | (refine ⟨rfl, ?_⟩) | (refine ⟨?_, ?_⟩)))) (by (repeat' (first | exact trivial | exact rfl | (refine ⟨Or.inl rfl, ?_⟩) | (refine ⟨Or.inr rfl, ?_⟩) | (refine ⟨Or.inr trivial, ?_⟩) | (refine ⟨rfl, ?_⟩) | (refine ⟨?_, ?_⟩)))) ?_
  intro k hk
  by_cases hlt : k < A.length
  · obtain ⟨x, hx, _⟩ := drop_at hlt
    have d1 := lfree_ac s x.acct x.cur
    have d2 := lfree_ac t x.acct x.cur
    rw [hfr] at d2
    repeat' (first | ((with_reducible refine gA ?_); (first | refine AW_seq ?_ | refine AW_region ?_ | refine AW_regionD Try.mixed ?_ | (refine AW_cond rfl (fun hc => ?_) (fun hc => ?_) <;> try (exfalso; simp only [cmpL] at hc; omega)) | refine AW_block ?_ | refine AW_skip ?_)) | (first | ((with_reducible refine gS ?_); refine Es_s (T := Try.tab) rfl rfl rfl rfl ?_) | ((with_reducible refine gD ?_); refine Ed_s (T := Try.tab) rfl rfl rfl rfl ?_)) | ((first | ((with_reducible refine gS ?_); apply Es_xg) | ((with_reducible refine gD ?_); apply Ed_xg)); rfl; rfl; (first | refine LStep_callHN [] [] d1 rfl rfl ⟨rfl, rfl, rfl, rfl, trivial⟩ rfl ⟨trivial, trivial, rfl, trivial, trivial⟩ rfl rfl | refine LStep_callHN [(1000, 1100), (1001, 1101), (1002, 1102), (1003, 1103)] [] d2 rfl rfl ⟨rfl, rfl, rfl, rfl, trivial⟩ rfl ⟨trivial, trivial, rfl, trivial, trivial⟩ rfl rfl); rfl) | ((first | ((with_reducible refine gS ?_); apply Es_q) | ((with_reducible refine gD ?_); apply Ed_q)); rfl; rfl; (first | (refine LStep_add rfl rfl rfl rfl ?_; (refine IntWalk.i64_in _ ?_; first | omega | (simp only [cmps] at *; omega))) | (refine LStep_indexM (T := Try.tab) (c := ?_) rfl rfl rfl rfl rfl rfl ?_; rotate_left; assumption))) | (with_reducible refine Es_nil ?_) | ((with_reducible refine Ed_nil ?_ ?_); kernel_rfl) | (with_reducible refine then_n ?_) | (with_reducible refine block_n ?_))
    all_goals first
      | (exfalso; simp [eqb, eqs] at *; done)
      | exact ⟨k + 1, by omega, by omega, by (repeat' (first | exact trivial | exact rfl | (refine ⟨Or.inl rfl, ?_⟩) | (refine ⟨Or.inr rfl, ?_⟩) | (refine ⟨Or.inr trivial, ?_⟩) | (refine ⟨rfl, ?_⟩) | (refine ⟨?_, ?_⟩))), by (repeat' (first | exact trivial | exact rfl | (refine ⟨Or.inl rfl, ?_⟩) | (refine ⟨Or.inr rfl, ?_⟩) | (refine ⟨Or.inr trivial, ?_⟩) | (refine ⟨rfl, ?_⟩) | (refine ⟨?_, ?_⟩))), by (repeat' (first | exact trivial | exact rfl | (refine ⟨Or.inl rfl, ?_⟩) | (refine ⟨Or.inr rfl, ?_⟩) | (refine ⟨Or.inr trivial, ?_⟩) | (refine ⟨rfl, ?_⟩) | (refine ⟨?_, ?_⟩))), by (repeat' (first | exact trivial | exact rfl | (refine ⟨Or.inl rfl, ?_⟩) | (refine ⟨Or.inr rfl, ?_⟩) | (refine ⟨Or.inr trivial, ?_⟩) | (refine ⟨rfl, ?_⟩) | (refine ⟨?_, ?_⟩)))⟩
  have : k = A.length := by omega
  subst this
  clear hlt hk
  repeat' (first | ((with_reducible refine gA ?_); (first | refine AW_seq ?_ | refine AW_region ?_ | (refine AW_cond rfl (fun hc => ?_) (fun hc => ?_) <;> try (exfalso; simp only [cmpL] at hc; omega)) | refine AW_ret ?_ | refine AW_exit ?_)) | ((with_reducible refine gS ?_); refine Es_s (T := Try.tab) rfl rfl rfl rfl ?_) | (with_reducible refine Es_nil ?_) | (with_reducible refine then_n ?_) | (with_reducible refine then_e ?_) | ((with_reducible refine block_e ?_ ?_); rfl) | ((with_reducible refine gR ?_); first | refine ret1 rfl ?_ | refine ret2 rfl rfl ?_ | refine ret0 ?_ | refine end1 rfl ?_ | refine end0 ?_))
  exact ⟨rfl, rfl, rfl, rfl, rfl, rfl, rfl, rfl, rfl, trivial⟩
end Go.Proofs.Ytbekoielblcbmaa
