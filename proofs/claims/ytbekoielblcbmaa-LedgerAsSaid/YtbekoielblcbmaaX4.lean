import Derived.Test.YtbekoielblcbmaaX3
namespace Go.Proofs.Ytbekoielblcbmaa
open Go.SL
/-! ### what stays true of a ledger -/
theorem aput_len {κ α : Type} [DecidableEq κ] (k : κ) (c : α) (l : List (κ × α)) : (aput k c l).length ≤ l.length + 1 := by
  have h := congrArg List.length (akeys_put k c l)
  by_cases hm : k ∈ akeys l
  · rw [if_pos hm] at h
    simp only [akeys, List.length_map] at h
    omega
  · rw [if_neg hm] at h
    simp only [akeys, List.length_map, List.length_append, List.length_singleton] at h
    omega
theorem aput_lenS {κ α : Type} [DecidableEq κ] {k : κ} {c : α} {l : List (κ × α)} (hk : aget k l ≠ none) : (aput k c l).length = l.length := by
  have h := congrArg List.length (akeys_put k c l)
  have hm : k ∈ akeys l := Classical.byContradiction fun e => hk (aget_none.2 e)
  rw [if_pos hm] at h
  simpa [akeys] using h
theorem adel_len {κ α : Type} [DecidableEq κ] (k : κ) (l : List (κ × α)) : (adel k l).length ≤ l.length := (del_sub k l).length_le
def Led0 : Led := ⟨[], [], []⟩
theorem Led0_ok : Led0.Ok := ⟨by simp [Led0, akeys], by simp [Led0, akeys], by simp [Led0], by simp [Led0], by simp [Led0], fun id h e => by simp [Led0, aget] at e⟩
theorem openS_ok {s : Led} (hs : s.Ok) (n c : ByteArray) (f : Int) : (openS s n c f).1.Ok := by
  unfold openS
  split
  · exact hs
  split
  · exact hs
  split
  · exact hs
  split
  · exact hs
  have := aput_len (n, c) (⟨f, 0, 0⟩ : Acc) s.A
  exact ⟨nodup_put hs.nA, hs.nH, by simp only; omega, hs.lP, hs.lH, fun id h e => let ⟨q1, q2, q3⟩ := hs.hold id h e; ⟨q1, aget_keep q2, q3⟩⟩
theorem enterA_get (c : List (K2 × Int)) (k : K2) (A : List (K2 × Acc)) : aget k (enterA c A) = (aget k A).map fun a => (addAcc c (fun _ => true) (k, a)).2 := aget_map (addAcc_key _ _) k A
theorem enterS_ok {s : Led} (hs : s.Ok) (t : ByteArray) (x : List Ent) (h : s.P.length < 4096) : (enterS s t x).Ok := by
  refine ⟨?_, hs.nH, ?_, ?_, hs.lH, fun id h e => ?_⟩
  · show (akeys (enterA (chgL x) s.A)).Nodup
    unfold enterA
    rw [akeys_map (addAcc_key _ _)]
    exact hs.nA
  · show (enterA (chgL x) s.A).length ≤ 4096
    unfold enterA
    rw [List.length_map]
    exact hs.lA
  · show (s.P ++ [_]).length ≤ 4096
    rw [List.length_append, List.length_singleton]
    omega
  · obtain ⟨q1, q2, q3⟩ := hs.hold id h e
    refine ⟨q1, ?_, q3⟩
    show aget h.key (enterA (chgL x) s.A) ≠ none
    rw [enterA_get]
    cases hq : aget h.key s.A with
    | none => exact absurd hq q2
    | some a => simp
theorem lessS_ok {s : Led} (hs : s.Ok) {id : ByteArray} {h : Hld} (he : aget id s.H = some h) {m : Int} (h1 : 1 ≤ m) (h2 : m ≤ h.amt) : (lessS s h m).Ok := by
  obtain ⟨q1, q2, q3, q4⟩ := hs.hold id h he
  have hl := aput_lenS (c := (⟨((aget h.key s.A).getD ⟨0, 0, 0⟩).floor, ((aget h.key s.A).getD ⟨0, 0, 0⟩).bal, wrp .i64 (((aget h.key s.A).getD ⟨0, 0, 0⟩).held - m)⟩ : Acc)) q2
  refine ⟨nodup_put hs.nA, ?_, ?_, hs.lP, ?_, fun id' h' e => ?_⟩
  · show (akeys (if h.amt - m = 0 then adel h.id s.H else aput h.id ⟨h.id, h.acct, h.cur, h.amt - m⟩ s.H)).Nodup
    split
    · exact nodup_del hs.nH
    · exact nodup_put hs.nH
  · show (aput h.key _ s.A).length ≤ 4096
    rw [hl]
    exact hs.lA
  · show (if h.amt - m = 0 then adel h.id s.H else aput h.id ⟨h.id, h.acct, h.cur, h.amt - m⟩ s.H).length ≤ 4096
    have := hs.lH
    split
    · have := adel_len h.id s.H
      omega
    · rw [aput_lenS (by rw [q1, he]; simp)]
      omega
  · have e' : aget id' (if h.amt - m = 0 then adel h.id s.H else aput h.id ⟨h.id, h.acct, h.cur, h.amt - m⟩ s.H) = some h' := e
    show h'.id = id' ∧ aget h'.key (aput h.key _ s.A) ≠ none ∧ _
    split at e'
    · rw [aget_del _ _ _ hs.nH] at e'
      split at e'
      · cases e'
      · obtain ⟨g1, g2, g3⟩ := hs.hold id' h' e'
        exact ⟨g1, aget_keep g2, g3⟩
    · rw [aget_put] at e'
      split at e'
      · rename_i hid
        cases e'
        exact ⟨hid, aget_keep q2, by simp only; omega, by simp only; omega⟩
      · obtain ⟨g1, g2, g3⟩ := hs.hold id' h' e'
        exact ⟨g1, aget_keep g2, g3⟩
theorem holdE_ok {s : Led} {id n c : ByteArray} {m : Int} (he : holdE s id n c m = 0) : lnameOk id = true ∧ aget id s.H = none ∧ aget (n, c) s.A ≠ none ∧ 1 ≤ m ∧ m ≤ 1099511627776 ∧ m ≤ frA s.A (n, c) ∧ s.H.length < 4096 := by
  unfold holdE at he
  split at he
  · cases he
  split at he
  · cases he
  split at he
  · cases he
  split at he
  · cases he
  split at he
  · cases he
  split at he
  · cases he
  rename_i g1 g2 g3 g4 g5 g6
  refine ⟨by simpa using g1, ?_, ?_, by omega, by omega, by omega, by omega⟩
  · cases hq : aget id s.H with
    | none => rfl
    | some x => rw [hq] at g2; simp at g2
  · intro e
    rw [e] at g3
    simp at g3
theorem holdS_ok {s : Led} (hs : s.Ok) (id n c : ByteArray) (m : Int) : (holdS s id n c m).Ok := by
  by_cases he : holdE s id n c m = 0
  · obtain ⟨g1, g2, g3, g4, g5, g6, g7⟩ := holdE_ok he
    unfold holdS
    rw [if_pos he]
    have hl := aput_lenS (c := (⟨((aget (n, c) s.A).getD ⟨0, 0, 0⟩).floor, ((aget (n, c) s.A).getD ⟨0, 0, 0⟩).bal, wrp .i64 (((aget (n, c) s.A).getD ⟨0, 0, 0⟩).held + m)⟩ : Acc)) g3
    have hl2 := aput_len id (⟨id, n, c, m⟩ : Hld) s.H
    refine ⟨nodup_put hs.nA, nodup_put hs.nH, by rw [hl]; exact hs.lA, hs.lP, by simp only; omega, fun id' h' e => ?_⟩
    have e' : aget id' (aput id ⟨id, n, c, m⟩ s.H) = some h' := e
    rw [aget_put] at e'
    split at e'
    · rename_i hid
      cases e'
      exact ⟨hid, aget_keep g3, by simp only; omega, by simp only; omega⟩
    · obtain ⟨q1, q2, q3⟩ := hs.hold id' h' e'
      exact ⟨q1, aget_keep q2, q3⟩
  · unfold holdS
    rw [if_neg he]
    exact hs
theorem letS_ok {s : Led} (hs : s.Ok) (id : ByteArray) : (letS s id).Ok := by
  unfold letS
  cases hq : aget id s.H with
  | none => exact hs
  | some h => exact lessS_ok hs hq (hs.hold id h hq).2.2.1 (Int.le_refl _)
theorem postE_lt {s : Led} {t : ByteArray} {x : List Ent} (he : postE s t x = 0) : s.P.length < 4096 := by
  unfold postE at he
  split at he
  · cases he
  split at he
  · cases he
  rename_i g1 g2
  omega
theorem takeS_ok {s : Led} (hs : s.Ok) {id to : ByteArray} {m : Int} (he : takeE s id to m = 0) : (takeS s id to m).Ok := by
  obtain ⟨h, a, q1, q2, q3, q4, q5, q6, q7⟩ := takeE_ok he
  unfold takeS
  rw [q1]
  exact enterS_ok (lessS_ok hs q1 q4 q5) _ _ q6
theorem doS_ok {s : Led} (hs : s.Ok) (x : Act) : (doS s x).Ok := by
  unfold doS
  split
  · exact openS_ok hs _ _ _
  split
  · split
    · rename_i h
      exact enterS_ok hs _ _ (postE_lt h)
    · exact hs
  split
  · exact holdS_ok hs _ _ _ _
  split
  · split
    · rename_i h
      exact takeS_ok hs h
    · exact hs
  exact letS_ok hs _
theorem doS_P {s : Led} {x : Act} (hg : ¬ grows s x) : (doS s x).P = s.P := by
  unfold doS
  split
  · exact openS_P _ _ _ _
  split
  · rename_i h
    rw [if_neg (fun e => hg (.inl ⟨h, e⟩))]
  split
  · exact holdS_P _ _ _ _ _
  split
  · rename_i h
    rw [if_neg (fun e => hg (.inr ⟨h, e⟩))]
  exact letS_P _ _
theorem doS_grows {s : Led} {x : Act} (hg : grows s x) : (s.P.map Post.enc).length < ((doS s x).P.map Post.enc).length := by
  rcases hg with ⟨h, hq⟩ | ⟨h, hq⟩
  · rw [doS, if_neg (by rw [h]; decide), if_pos h, if_pos hq]
    exact enter_grows _ _ _
  · rw [doS, if_neg (by rw [h]; decide), if_neg (by rw [h]; decide), if_neg (by rw [h]; decide), if_pos h, if_pos hq]
    exact take_grows hq
def playS (s : Led) (l : List Act) : Led := l.foldl doS s
theorem playS_snoc (s : Led) (l : List Act) (x : Act) : playS s (l ++ [x]) = doS (playS s l) x := by simp [playS]
theorem playS_ok {s : Led} (hs : s.Ok) (l : List Act) : (playS s l).Ok := by
  unfold playS
  induction l generalizing s with
  | nil => exact hs
  | cons x l ih => exact ih (doS_ok hs x)
/-! ### played -/
def hLn (a b c d : Nat) (s : Led) : Hp := [(a, some (.cells [.mp b, .own c (s.P.map Post.enc).length, .mp d])), (b, some (.map 75 77 (emap k2V aV s.A) none)), (c, some (.arr 55 3 (s.P.map Post.enc))), (d, some (.map 9 67 (emap sV hV s.H) none))]
set_option maxRecDepth 10000 in
set_option maxHeartbeats 2000000 in
theorem played_ac (l : List Act) (hf : fewL l = true) (hk : ∀ x ∈ l, 0 ≤ x.kind) : AC Try.prog 12 [.d (.sl 6 (l.map Act.enc))] [] []
    (fun r h' => r = .ptr 5 0 ∧ SubH (hLn 5 5001 5002 5003 (playS Led0 l)) h') := by
  unfold fewL at hf
  rw [Bool.and_eq_true, decide_eq_true_eq, List.all_eq_true] at hf
  obtain ⟨hf, hl⟩ := hf
  have cn := ledgerNew_ac ⟨#[107]⟩
  refine AC_enter Try.func12 rfl Try.ntmps12 (rv := [.tmp 2]) rfl rfl (by simp) (fun w X G => ?_)
  repeat' (first | ((with_reducible refine gA ?_); (first | refine AW_seq ?_ | refine AW_region ?_ | refine AW_block ?_)) | ((with_reducible refine gS ?_); refine Es_s (T := Try.tab) rfl rfl rfl rfl ?_) | (((with_reducible refine gS ?_); apply Es_xg); rfl; rfl; refine LStep_callHN [] [(6, 5), (3, 5001), (2000, 5002), (4, 5003)] cn rfl rfl trivial rfl trivial rfl rfl; rfl) | (with_reducible refine Es_nil ?_) | (with_reducible refine then_n ?_))
  refine AW_forE (S := Nat) (fun k => k ≤ l.length) (fun k => [(4, .d (.sc (.int .i64 (k : Nat))))]) (fun k => hLn 5 5001 5002 5003 (playS Led0 (l.take k))) (fun k => l.length - k) 0 (by omega) (by (repeat' (first | exact trivial | exact rfl | (refine ⟨Or.inl rfl, ?_⟩) | (refine ⟨Or.inr rfl, ?_⟩) | (refine ⟨Or.inr trivial, ?_⟩) | (refine ⟨rfl, ?_⟩) | (refine ⟨?_, ?_⟩)))) ⟨rfl, rfl, rfl, rfl, trivial⟩ ?_
  intro k hkl
  by_cases hlt : k < l.length
  · obtain ⟨x, hx, _⟩ := drop_at hlt
    have hxm := List.mem_of_getElem? hx
    have hx1 := hf x hxm
    unfold fewA at hx1
    rw [decide_eq_true_eq] at hx1
    have hok := playS_ok Led0_ok (l.take k)
    have hst : playS Led0 (l.take (k + 1)) = doS (playS Led0 (l.take k)) x := by rw [take_at hx, playS_snoc]
    generalize playS Led0 (l.take k) = s at hok hst ⊢
    by_cases hg : grows s x
    · have cd := doOk_ac s x hok (hk x hxm) (by omega) hg
      have hP := doS_grows hg
      repeat' (first | ((with_reducible refine gA ?_); (first | refine AW_seq ?_ | refine AW_region ?_ | (refine AW_cond rfl (fun hc => ?_) (fun hc => ?_) <;> try (exfalso; simp only [cmpL] at hc; omega)) | refine AW_block ?_ | refine AW_skip ?_)) | ((with_reducible refine gS ?_); refine Es_s (T := Try.tab) rfl rfl rfl rfl ?_) | (((with_reducible refine gS ?_); apply Es_xg); rfl; rfl; refine LStep_callGN [1002] [(1000, 5), (1001, 5001), (1002, 5002), (1003, 5003)] [] cd rfl rfl ⟨rfl, rfl, rfl, rfl, trivial⟩ rfl ⟨trivial, trivial, hP, trivial, trivial⟩ rfl rfl; rfl) | (((with_reducible refine gS ?_); apply Es_q); rfl; rfl; (first | refine LStep_lenM (T := Try.tab) rfl rfl rfl rfl | (refine LStep_add rfl rfl rfl rfl ?_; (refine IntWalk.i64_in _ ?_; first | omega | (simp only [cmps] at *; omega))) | (refine LStep_indexM (T := Try.tab) (c := ?_) rfl rfl rfl rfl rfl rfl ?_; rotate_left; assumption))) | (with_reducible refine Es_nil ?_) | (with_reducible refine then_n ?_) | (with_reducible refine block_n ?_))
      refine ⟨k + 1, by omega, by omega, by (repeat' (first | exact trivial | exact rfl | (refine ⟨Or.inl rfl, ?_⟩) | (refine ⟨Or.inr rfl, ?_⟩) | (refine ⟨Or.inr trivial, ?_⟩) | (refine ⟨rfl, ?_⟩) | (refine ⟨?_, ?_⟩))), by (repeat' (first | exact trivial | exact rfl | (refine ⟨Or.inl rfl, ?_⟩) | (refine ⟨Or.inr rfl, ?_⟩) | (refine ⟨Or.inr trivial, ?_⟩) | (refine ⟨rfl, ?_⟩) | (refine ⟨?_, ?_⟩))), ?_, by (repeat' (first | exact trivial | exact rfl | (refine ⟨Or.inl rfl, ?_⟩) | (refine ⟨Or.inr rfl, ?_⟩) | (refine ⟨Or.inr trivial, ?_⟩) | (refine ⟨rfl, ?_⟩) | (refine ⟨?_, ?_⟩)))⟩
      rw [hst]; (repeat' (first | exact trivial | exact rfl | (refine ⟨Or.inl rfl, ?_⟩) | (refine ⟨Or.inr rfl, ?_⟩) | (refine ⟨Or.inr trivial, ?_⟩) | (refine ⟨rfl, ?_⟩) | (refine ⟨?_, ?_⟩)))
    · have cd := doNo_ac s x hok (hk x hxm) hg
      have hP := congrArg (fun p => (p.map Post.enc).length) (doS_P hg).symm
      repeat' (first | ((with_reducible refine gA ?_); (first | refine AW_seq ?_ | refine AW_region ?_ | (refine AW_cond rfl (fun hc => ?_) (fun hc => ?_) <;> try (exfalso; simp only [cmpL] at hc; omega)) | refine AW_block ?_ | refine AW_skip ?_)) | ((with_reducible refine gS ?_); refine Es_s (T := Try.tab) rfl rfl rfl rfl ?_) | (((with_reducible refine gS ?_); apply Es_xg); rfl; rfl; refine LStep_callHN [(1000, 5), (1001, 5001), (1002, 5002), (1003, 5003)] [] cd rfl rfl ⟨rfl, rfl, rfl, rfl, trivial⟩ rfl ⟨trivial, trivial, hP, trivial, trivial⟩ rfl rfl; rfl) | (((with_reducible refine gS ?_); apply Es_q); rfl; rfl; (first | refine LStep_lenM (T := Try.tab) rfl rfl rfl rfl | (refine LStep_add rfl rfl rfl rfl ?_; (refine IntWalk.i64_in _ ?_; first | omega | (simp only [cmps] at *; omega))) | (refine LStep_indexM (T := Try.tab) (c := ?_) rfl rfl rfl rfl rfl rfl ?_; rotate_left; assumption))) | (with_reducible refine Es_nil ?_) | (with_reducible refine then_n ?_) | (with_reducible refine block_n ?_))
      refine ⟨k + 1, by omega, by omega, by (repeat' (first | exact trivial | exact rfl | (refine ⟨Or.inl rfl, ?_⟩) | (refine ⟨Or.inr rfl, ?_⟩) | (refine ⟨Or.inr trivial, ?_⟩) | (refine ⟨rfl, ?_⟩) | (refine ⟨?_, ?_⟩))), by (repeat' (first | exact trivial | exact rfl | (refine ⟨Or.inl rfl, ?_⟩) | (refine ⟨Or.inr rfl, ?_⟩) | (refine ⟨Or.inr trivial, ?_⟩) | (refine ⟨rfl, ?_⟩) | (refine ⟨?_, ?_⟩))), ?_, by (repeat' (first | exact trivial | exact rfl | (refine ⟨Or.inl rfl, ?_⟩) | (refine ⟨Or.inr rfl, ?_⟩) | (refine ⟨Or.inr trivial, ?_⟩) | (refine ⟨rfl, ?_⟩) | (refine ⟨?_, ?_⟩)))⟩
      rw [hst]; (repeat' (first | exact trivial | exact rfl | (refine ⟨Or.inl rfl, ?_⟩) | (refine ⟨Or.inr rfl, ?_⟩) | (refine ⟨Or.inr trivial, ?_⟩) | (refine ⟨rfl, ?_⟩) | (refine ⟨?_, ?_⟩)))
  have : k = l.length := by omega
  subst this
  rw [List.take_length]
  repeat' (first | ((with_reducible refine gA ?_); (first | refine AW_seq ?_ | refine AW_region ?_ | (refine AW_cond rfl (fun hc => ?_) (fun hc => ?_) <;> try (exfalso; simp only [cmpL] at hc; omega)) | refine AW_ret ?_ | refine AW_exit ?_)) | ((with_reducible refine gS ?_); refine Es_s (T := Try.tab) rfl rfl rfl rfl ?_) | (((with_reducible refine gS ?_); apply Es_q); rfl; rfl; refine LStep_lenM (T := Try.tab) rfl rfl rfl rfl) | (with_reducible refine Es_nil ?_) | (with_reducible refine then_n ?_) | (with_reducible refine then_e ?_) | ((with_reducible refine block_e ?_ ?_); rfl) | ((with_reducible refine gR ?_); first | refine ret1 rfl ?_ | refine ret2 rfl rfl ?_ | refine ret0 ?_ | refine end1 rfl ?_ | refine end0 ?_))
  exact ⟨rfl, rfl, rfl, rfl, rfl, trivial⟩
end Go.Proofs.Ytbekoielblcbmaa
