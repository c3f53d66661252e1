import Derived.Test.YtbekoielblcbmaaZ3
namespace Go.Proofs.Ytbekoielblcbmaa
open Go.SL
/-! ### the document's holds -/
theorem erase_step {α : Type} {l : List α} {j k : Nat} {x : α} (h : l[j]? = some x) : (l.take (j + 1)).eraseIdx k = if j = k then (l.take j).eraseIdx k else (l.take j).eraseIdx k ++ [x] := by
  have hj := (List.getElem?_eq_some_iff.1 h).1
  have hl : (l.take j).length = j := by rw [List.length_take]; omega
  rw [take_at h]
  rcases Nat.lt_trichotomy k j with h1 | h1 | h1
  · rw [if_neg (by omega), List.eraseIdx_append_of_lt_length (by omega)]
  · subst h1
    rw [if_pos rfl, List.eraseIdx_append_of_length_le (by omega), hl, Nat.sub_self, show [x].eraseIdx 0 = [] from rfl, List.append_nil, List.eraseIdx_of_length_le (by omega)]
  · rw [if_neg (by omega), List.eraseIdx_of_length_le (by rw [List.length_append, hl, List.length_singleton]; omega), List.eraseIdx_of_length_le (by omega)]
set_option maxRecDepth 10000 in
set_option maxHeartbeats 2000000 in
theorem rwithout_ac (A : List (K2 × Acc)) (P : List Post) (H : List Hld) (k : Nat) (hH : H.length ≤ 1048576) (hk : k < H.length) : AC Try.prog 65 [docA A P H, .d (.sc (.int .i64 (k : Nat)))] [] []
    (fun r h' => r = .agg [.d (.sl 4 (A.map daE)), .d (.sl 3 (P.map Post.enc)), .own 7 ((H.eraseIdx k).map Hld.enc).length] ∧ SubH [(7, some (.arr 67 4 ((H.eraseIdx k).map Hld.enc)))] h') := by
  refine AC_enterC Try.tab Try.func65 rfl Try.ntmps65 (a0 := 4) (t0 := 45) rfl rfl (by simp) (fun w X G => ?_)
  repeat' (first | ((with_reducible refine gA ?_); (first | refine AW_seq ?_ | refine AW_region ?_ | refine AW_block ?_)) | ((with_reducible refine gS ?_); refine Es_s (T := Try.tab) rfl rfl rfl rfl ?_) | (((with_reducible refine gS ?_); apply Es_xs); rfl; rfl; (refine LStep_litOwn (T := Try.tab) (len := 0) rfl rfl rfl rfl rfl rfl rfl rfl rfl rfl ?_ ?_; (refine Nat.le_of_ble_eq_true ?_; rfl); (unfold maxLen; omega)); rfl) | (refine Es_skip rfl ?_ rfl ?_; (first | rfl | (refine w_tf ?_; assumption) | (refine w_ft ?_; assumption))) | (((with_reducible refine gS ?_); apply Es_xs); rfl; rfl; (first | refine LStep_boxN rfl rfl rfl rfl rfl rfl | refine LStep_allocN (T := Try.tab) rfl rfl rfl rfl rfl rfl); rfl) | (with_reducible refine Es_nil ?_) | (with_reducible refine then_n ?_))
  refine AW_forE (S := Nat) (fun j => j ≤ H.length) (fun j => [(6, .d (.sc (.int .i64 (j : Nat)))), (5, .own 7 (((H.take j).eraseIdx k).map Hld.enc).length)]) (fun j => [(7, some (.arr 67 4 (((H.take j).eraseIdx k).map Hld.enc)))]) (fun j => H.length - j) 0 (by omega) (by (repeat' (first | exact trivial | exact rfl | (refine ⟨Or.inl rfl, ?_⟩) | (refine ⟨Or.inr rfl, ?_⟩) | (refine ⟨Or.inr trivial, ?_⟩) | (refine ⟨rfl, ?_⟩) | (refine ⟨?_, ?_⟩)))) (by (repeat' (first | exact trivial | exact rfl | (refine ⟨Or.inl rfl, ?_⟩) | (refine ⟨Or.inr rfl, ?_⟩) | (refine ⟨Or.inr trivial, ?_⟩) | (refine ⟨rfl, ?_⟩) | (refine ⟨?_, ?_⟩)))) ?_
  intro j hj
  by_cases hlt : j < H.length
  · obtain ⟨x, hx, _⟩ := drop_at hlt
    have hst := erase_step (k := k) hx
    have hll : ((H.take j).eraseIdx k).length ≤ H.length := by
      refine Nat.le_trans (List.length_eraseIdx_le _ _) ?_
      rw [List.length_take]
      omega
    by_cases hjk : j = k
    · rw [if_pos hjk] at hst
      repeat' (first | ((with_reducible refine gA ?_); (first | refine AW_seq ?_ | refine AW_region ?_ | (refine AW_cond rfl (fun hc => ?_) (fun hc => ?_) <;> try (exfalso; simp only [cmpL] at hc; omega)) | refine AW_block ?_ | refine AW_skip ?_)) | ((with_reducible refine gS ?_); refine Es_s (T := Try.tab) rfl rfl rfl rfl ?_) | (((with_reducible refine gS ?_); apply Es_q); rfl; rfl; (first | refine LStep_lenM (T := Try.tab) rfl rfl rfl rfl | (refine LStep_add rfl rfl rfl rfl ?_; (refine IntWalk.i64_in _ ?_; first | omega | (simp only [cmps] at *; omega))))) | (with_reducible refine Es_nil ?_) | (with_reducible refine then_n ?_) | (with_reducible refine block_n ?_))
      all_goals simp only [cmps] at *
      all_goals first
        | (exfalso; omega)
        | (refine ⟨j + 1, by omega, by omega, ?_, by (repeat' (first | exact trivial | exact rfl | (refine ⟨Or.inl rfl, ?_⟩) | (refine ⟨Or.inr rfl, ?_⟩) | (refine ⟨Or.inr trivial, ?_⟩) | (refine ⟨rfl, ?_⟩) | (refine ⟨?_, ?_⟩))), ?_, by (repeat' (first | exact trivial | exact rfl | (refine ⟨Or.inl rfl, ?_⟩) | (refine ⟨Or.inr rfl, ?_⟩) | (refine ⟨Or.inr trivial, ?_⟩) | (refine ⟨rfl, ?_⟩) | (refine ⟨?_, ?_⟩)))⟩ <;> rw [hst] <;> (repeat' (first | exact trivial | exact rfl | (refine ⟨Or.inl rfl, ?_⟩) | (refine ⟨Or.inr rfl, ?_⟩) | (refine ⟨Or.inr trivial, ?_⟩) | (refine ⟨rfl, ?_⟩) | (refine ⟨?_, ?_⟩))))
    · rw [if_neg hjk] at hst
      repeat' (first | ((with_reducible refine gA ?_); (first | refine AW_seq ?_ | refine AW_region ?_ | (refine AW_cond rfl (fun hc => ?_) (fun hc => ?_) <;> try (exfalso; simp only [cmpL] at hc; omega)) | refine AW_block ?_ | refine AW_skip ?_)) | ((with_reducible refine gS ?_); refine Es_s (T := Try.tab) rfl rfl rfl rfl ?_) | (((with_reducible refine gS ?_); apply Es_xs); rfl; rfl; (refine LStep_append (T := Try.tab) rfl rfl rfl rfl rfl rfl rfl rfl rfl rfl ?_ ?_ ?_; rfl; (simp only [List.length_map, List.length_cons, List.length_nil]; omega); (unfold maxLen; simp only [List.length_map, List.length_cons, List.length_nil]; omega)); rfl) | (((with_reducible refine gS ?_); apply Es_q); rfl; rfl; (first | refine LStep_lenM (T := Try.tab) rfl rfl rfl rfl | (refine LStep_add rfl rfl rfl rfl ?_; (refine IntWalk.i64_in _ ?_; first | omega | (simp only [cmps] at *; omega))) | (refine LStep_indexM (T := Try.tab) (c := ?_) rfl rfl rfl rfl rfl rfl ?_; rotate_left; assumption) | (refine LStep_lit (T := Try.tab) rfl rfl rfl rfl rfl rfl rfl rfl ?_; (refine Nat.le_of_ble_eq_true ?_; rfl)))) | (with_reducible refine Es_nil ?_) | (with_reducible refine then_n ?_) | (with_reducible refine block_n ?_))
      all_goals simp only [cmps] at *
      all_goals first
        | (exfalso; omega)
        | (refine ⟨j + 1, by omega, by omega, ?_, by (repeat' (first | exact trivial | exact rfl | (refine ⟨Or.inl rfl, ?_⟩) | (refine ⟨Or.inr rfl, ?_⟩) | (refine ⟨Or.inr trivial, ?_⟩) | (refine ⟨rfl, ?_⟩) | (refine ⟨?_, ?_⟩))), ?_, by (repeat' (first | exact trivial | exact rfl | (refine ⟨Or.inl rfl, ?_⟩) | (refine ⟨Or.inr rfl, ?_⟩) | (refine ⟨Or.inr trivial, ?_⟩) | (refine ⟨rfl, ?_⟩) | (refine ⟨?_, ?_⟩)))⟩ <;> rw [hst, List.map_append] <;> (repeat' (first | exact trivial | exact rfl | (refine ⟨Or.inl rfl, ?_⟩) | (refine ⟨Or.inr rfl, ?_⟩) | (refine ⟨Or.inr trivial, ?_⟩) | (refine ⟨rfl, ?_⟩) | (refine ⟨?_, ?_⟩))))
  have : j = H.length := by omega
  subst this
  rw [List.take_length]
  repeat' (first | ((with_reducible refine gA ?_); (first | refine AW_seq ?_ | refine AW_region ?_ | (refine AW_cond rfl (fun hc => ?_) (fun hc => ?_) <;> try (exfalso; simp only [cmpL] at hc; omega)) | refine AW_ret ?_ | refine AW_exit ?_)) | ((with_reducible refine gS ?_); refine Es_s (T := Try.tab) rfl rfl rfl rfl ?_) | (((with_reducible refine gS ?_); apply Es_q); rfl; rfl; refine LStep_lenM (T := Try.tab) rfl rfl rfl rfl) | (((with_reducible refine gS ?_); apply Es_xn); rfl; rfl; (refine LStep_storeN (T := Try.tab) rfl rfl rfl rfl rfl rfl rfl ?_ rfl; (refine Nat.le_of_ble_eq_true ?_; rfl)); rfl) | (with_reducible refine Es_nil ?_) | (with_reducible refine then_n ?_) | (with_reducible refine then_e ?_) | ((with_reducible refine block_e ?_ ?_); rfl) | ((with_reducible refine gC ?_); first | refine retC1 rfl ?_ | refine endC1 rfl ?_))
  exact ⟨rfl, rfl, trivial⟩
/-- how holds stand behind the removal of one -/
theorem hk_get {s : Led} {H : List Hld} (hd : DocH s H) (hs : s.Ok) (i : ByteArray) : aget i (hk H) = aget i s.H := by
  have hp : (hk H).Perm (s.H.map fun p => (p.2.id, p.2)) := by
    have := hd.perm.map (fun h : Hld => (h.id, h))
    rw [mvals, List.map_map] at this
    exact this
  have he : (s.H.map fun p => (p.2.id, p.2)) = s.H := by
    refine (List.map_congr_left (fun p hp => ?_)).trans (List.map_id _)
    have := (hs.hold p.1 p.2 (aget_of_mem hs.nH hp)).1
    rw [this]; rfl
  rw [he] at hp
  exact (aget_perm hp.symm hs.nH i).symm
theorem docLess {s : Led} {H : List Hld} (hd : DocH s H) (hs : s.Ok) {i : ByteArray} {h : Hld} (hi : aget i s.H = some h) : ∃ k, fI i (hk H) = (k : Nat) ∧ k < H.length ∧ H[k]? = some h ∧ (H.eraseIdx k).Perm (mvals (adel h.id s.H)) := by
  have hg := (hk_get hd hs i).trans hi
  have hat := aidx_at hg
  have hat2 : H[aidx i (hk H)]? = some h := by
    have : (hk H)[aidx i (hk H)]? = (H[aidx i (hk H)]?).map fun h => (h.id, h) := by unfold hk; rw [List.getElem?_map]
    rw [this] at hat
    cases hq : H[aidx i (hk H)]? with
    | none => rw [hq] at hat; cases hat
    | some x => rw [hq] at hat; simp only [Option.map_some, Option.some.injEq, Prod.mk.injEq] at hat; rw [hat.2]
  refine ⟨aidx i (hk H), fI_some hg, (List.getElem?_eq_some_iff.1 hat2).1, hat2, ?_⟩
  have hid := (hs.hold i h hi).1
  rw [hid]
  -- both, with h ahead, are the same
  have h1 : (h :: H.eraseIdx (aidx i (hk H))).Perm H := by
    obtain ⟨hlt, he⟩ := List.getElem?_eq_some_iff.1 hat2
    generalize aidx i (hk H) = k at hlt he
    clear hat hat2 hg
    subst he
    have : H = H.take k ++ H[k] :: H.drop (k + 1) := by rw [List.getElem_cons_drop, List.take_append_drop]
    rw [List.eraseIdx_eq_take_drop_succ]
    refine (List.perm_middle.symm).trans ?_
    rw [← this]
  have h2 : (h :: mvals (adel i s.H)).Perm (mvals s.H) := by
    have key : ∀ {l : List (ByteArray × Hld)}, aget i l = some h → (h :: mvals (adel i l)).Perm (mvals l) := by
      intro l
      induction l with
      | nil => intro e; cases e
      | cons p l ih =>
        obtain ⟨q, c⟩ := p
        intro e
        rw [aget] at e
        rw [adel]
        split at e
        · rename_i hq
          rw [if_pos hq]
          cases e
          exact List.Perm.refl _
        · rename_i hq
          rw [if_neg hq]
          exact (List.Perm.swap _ _ _).trans ((ih e).cons _)
    exact key hi
  exact (h1.trans (hd.perm.trans h2.symm)).cons_inv
set_option maxRecDepth 20000 in
set_option maxHeartbeats 4000000 in
theorem rlet_ac (s : Led) (H : List Hld) (i : ByteArray) (hs : s.Ok) (hd : DocH s H) : ∃ H', DocH (letS s i) H' ∧ AC Try.prog 45 [docA s.A s.P H, .d (.sc (.string i))] [] []
    (fun r _ => r = .tup [docA (letS s i).A (letS s i).P H', .d (.sc (.int .i64 (letE s i)))]) := by
  have hl := doc_len hd hs
  have c1 := rhold_ac s.A s.P H i (by omega)
  cases hq : aget i s.H with
  | none =>
    rw [fI_none ((hk_get hd hs i).trans hq)] at c1
    have e1 : letS s i = s := by unfold letS; rw [hq]
    have e2 : letE s i = 4 := by unfold letE; rw [hq]; rfl
    rw [e1, e2]
    refine ⟨H, hd, ?_⟩
    refine AC_enterG Try.tab Try.func45 rfl Try.ntmps45 (rv := [.cell 4 45, .tmp 5]) rfl rfl (by simp) (fun w X G => ?_)
    repeat' (first | ((with_reducible refine gA ?_); (first | refine AW_seq ?_ | refine AW_region ?_ | (refine AW_cond rfl (fun hc => ?_) (fun hc => ?_) <;> try (exfalso; simp only [cmpL] at hc; omega)) | refine AW_ret ?_)) | ((with_reducible refine gS ?_); refine Es_s (T := Try.tab) rfl rfl rfl rfl ?_) | (((with_reducible refine gS ?_); apply Es_q); rfl; rfl; refine LStep_call (c1) rfl rfl rfl rfl) | (refine Es_skip rfl ?_ rfl ?_; (first | rfl | (refine w_tf ?_; assumption) | (refine w_ft ?_; assumption))) | (((with_reducible refine gS ?_); apply Es_xs); rfl; rfl; (first | refine LStep_boxN rfl rfl rfl rfl rfl rfl | refine LStep_allocN (T := Try.tab) rfl rfl rfl rfl rfl rfl); rfl) | (((with_reducible refine gS ?_); apply Es_xn); rfl; rfl; (refine LStep_storeN (T := Try.tab) rfl rfl rfl rfl rfl rfl rfl ?_ rfl; (refine Nat.le_of_ble_eq_true ?_; rfl)); rfl) | (with_reducible refine Es_nil ?_) | (with_reducible refine then_n ?_) | (with_reducible refine then_r ?_) | ((with_reducible refine gRG ?_); first | refine retGa rfl ?_ | refine retGb rfl ?_ | refine retGc rfl ?_ | refine retG1 rfl rfl ?_ | refine endG1 rfl rfl ?_))
    all_goals simp only [cmps] at *
    all_goals first
      | (exfalso; omega)
      | rfl
  | some h =>
    obtain ⟨k, hk1, hk2, hk3, hk4⟩ := docLess hd hs hq
    rw [hk1] at c1
    have c2 := rwithout_ac s.A s.P H k (by omega) hk2
    have e2 : letE s i = 0 := by unfold letE; rw [hq]; rfl
    have e1 : letS s i = lessS s h h.amt := by unfold letS; rw [hq]
    rw [e1, e2]
    have hA : (lessS s h h.amt).A.map daE = s.A.map daE := by
      have ha : ∀ {l : List (K2 × Acc)} {a a' : Acc}, aget h.key l = some a → a'.floor = a.floor → a'.bal = a.bal → (aput h.key a' l).map daE = l.map daE := by
        intro l
        induction l with
        | nil => intro a a' e; cases e
        | cons p l ih =>
          obtain ⟨q, c⟩ := p
          intro a a' e h1 h2
          rw [aget] at e
          rw [aput]
          split at e
          · rename_i hq
            cases e
            rw [if_pos hq]
            simp only [List.map_cons, daE, h1, h2, ← hq]
          · rename_i hq
            rw [if_neg hq, List.map_cons, List.map_cons, ih e h1 h2]
      cases hqa : aget h.key s.A with
      | none => exact absurd hqa (hs.hold i h hq).2.1
      | some a => exact ha (a := a) hqa (by rw [hqa]; rfl) (by rw [hqa]; rfl)
    have hH : (lessS s h h.amt).H = adel h.id s.H := by show (if h.amt - h.amt = 0 then _ else _) = _; rw [if_pos (by omega)]
    refine ⟨H.eraseIdx k, ⟨by rw [hH]; exact hk4, ?_⟩, ?_⟩
    · intro p hp
      have hn : akeys (lessS s h h.amt).A = akeys s.A := by
        show akeys (aput h.key _ s.A) = _
        rw [akeys_put, if_pos (Classical.byContradiction fun e => (hs.hold i h hq).2.1 (aget_none.2 e))]
      have : p.1 ∈ akeys s.A := by rw [← hn]; exact List.mem_map.2 ⟨p, hp, rfl⟩
      obtain ⟨q, hq1, hq2⟩ := List.mem_map.1 this
      rw [← hq2]
      exact hd.nm q hq1
    unfold docA
    rw [hA]
    refine AC_enterG Try.tab Try.func45 rfl Try.ntmps45 (rv := [.cell 4 45, .tmp 5]) rfl rfl (by simp) (fun w X G => ?_)
    repeat' (first | ((with_reducible refine gA ?_); refine AW_freezeCell 4 2 (id := 15) rfl rfl rfl rfl ?_) | ((with_reducible refine gA ?_); (first | refine AW_seq ?_ | refine AW_region ?_ | (refine AW_cond rfl (fun hc => ?_) (fun hc => ?_) <;> try (exfalso; simp only [cmpL] at hc; omega)) | refine AW_ret ?_ | refine AW_skip ?_)) | ((with_reducible refine gS ?_); refine Es_s (T := Try.tab) rfl rfl rfl rfl ?_) | (((with_reducible refine gS ?_); apply Es_q); rfl; rfl; refine LStep_call (c1) rfl rfl rfl rfl) | (((with_reducible refine gS ?_); apply Es_xg); rfl; rfl; refine LStep_callHN [] [(7, 15)] c2 rfl rfl trivial rfl trivial rfl rfl; rfl) | (refine Es_skip rfl ?_ rfl ?_; (first | rfl | (refine w_tf ?_; assumption) | (refine w_ft ?_; assumption))) | (((with_reducible refine gS ?_); apply Es_xs); rfl; rfl; (first | refine LStep_boxN rfl rfl rfl rfl rfl rfl | refine LStep_allocN (T := Try.tab) rfl rfl rfl rfl rfl rfl); rfl) | (((with_reducible refine gS ?_); apply Es_xn); rfl; rfl; (refine LStep_storeN (T := Try.tab) rfl rfl rfl rfl rfl rfl rfl ?_ rfl; (refine Nat.le_of_ble_eq_true ?_; rfl)); rfl) | (with_reducible refine Es_nil ?_) | (with_reducible refine then_n ?_) | ((with_reducible refine gRG ?_); first | refine retGa rfl ?_ | refine retGb rfl ?_ | refine retGc rfl ?_ | refine retG1 rfl rfl ?_ | refine endG1 rfl rfl ?_))
    all_goals simp only [cmps] at *
    all_goals first
      | (exfalso; omega)
      | rfl
      | trace_state
end Go.Proofs.Ytbekoielblcbmaa
