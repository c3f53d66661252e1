import Derived.Test.YtofdnkgieigncaaV3
namespace Go.Proofs.Ytofdnkgieigncaa
open Go.SL

/-! ### ledger.enter, Post -/
def addAcc (c : List (K2 × Int)) (D : K2 → Bool) (q : K2 × Acc) : K2 × Acc := if D q.1 = true then (match aget q.1 c with | some d => (q.1, ⟨q.2.floor, wrp .i64 (q.2.bal + d), q.2.held⟩) | none => q) else q
theorem addAcc_key (c : List (K2 × Int)) (D : K2 → Bool) (q : K2 × Acc) : (addAcc c D q).1 = q.1 := by
  unfold addAcc
  split
  · split <;> rfl
  · rfl
def hasK (l : List (K2 × Int)) (k : K2) : Bool := l.any fun q => decide (q.1 = k)
theorem hasK_snoc (l : List (K2 × Int)) (p : K2 × Int) (k : K2) : hasK (l ++ [p]) k = (hasK l k || decide (p.1 = k)) := by unfold hasK; rw [List.any_append]; simp
def enterA (c : List (K2 × Int)) (A : List (K2 × Acc)) : List (K2 × Acc) := A.map (addAcc c fun _ => true)
def enterS (s : Led) (t : ByteArray) (x : List Ent) : Led := ⟨enterA (chgL x) s.A, s.P ++ [⟨(s.P.length : Int) + 1, t, x⟩], s.H⟩
theorem aget_map {f : K2 × Acc → K2 × Acc} (hf : ∀ q, (f q).1 = q.1) (k : K2) : ∀ (A : List (K2 × Acc)), aget k (A.map f) = (aget k A).map fun a => (f (k, a)).2
  | [] => rfl
  | q :: A => by
    obtain ⟨q1, q2⟩ := q
    have h1 : f (q1, q2) = (q1, (f (q1, q2)).2) := Prod.ext (hf (q1, q2)) rfl
    rw [List.map_cons, h1, aget, aget]
    by_cases e : q1 = k
    · subst e; rw [if_pos rfl, if_pos rfl]; rfl
    · rw [if_neg e, if_neg e]; exact aget_map hf k A
theorem aput_map {f g : K2 × Acc → K2 × Acc} {k : K2} {new : Acc} (hf : ∀ q, (f q).1 = q.1) (hg : ∀ q : K2 × Acc, q.1 ≠ k → g q = f q) : ∀ (A : List (K2 × Acc)), (akeys A).Nodup → k ∈ akeys A → (∀ a, (k, a) ∈ A → g (k, a) = (k, new)) → aput k new (A.map f) = A.map g
  | [], _, h, _ => by simp [akeys] at h
  | q :: A, hn, hk, hkk => by
    obtain ⟨q1, q2⟩ := q
    rw [akeys_cons, List.nodup_cons] at hn
    have h1 := hf (q1, q2)
    rw [List.map_cons, List.map_cons]
    generalize hq : f (q1, q2) = z at h1
    obtain ⟨z1, z2⟩ := z
    simp only at h1
    subst h1
    rw [aput]
    by_cases e : z1 = k
    · subst e
      rw [if_pos rfl, hkk q2 List.mem_cons_self]
      refine congrArg _ ?_
      refine List.map_congr_left (fun p hp => ?_)
      exact (hg p (fun e => hn.1 (by rw [← e]; exact List.mem_map.2 ⟨p, hp, rfl⟩))).symm
    · rw [if_neg e, hg (z1, q2) e, hq]
      refine congrArg _ (aput_map hf hg A hn.2 ?_ (fun a ha => hkk a (List.mem_cons_of_mem _ ha)))
      rw [akeys_cons, List.mem_cons] at hk
      exact hk.resolve_left (fun x => e x.symm)
theorem akeys_map {f : K2 × Acc → K2 × Acc} (hf : ∀ q, (f q).1 = q.1) (A : List (K2 × Acc)) : akeys (A.map f) = akeys A := by
  unfold akeys
  rw [List.map_map]
  exact List.map_congr_left (fun q _ => hf q)
set_option maxRecDepth 10000 in
set_option maxHeartbeats 4000000 in
theorem enter_ac (s : Led) (t : ByteArray) (x : List Ent) (hx : x.length ≤ 4096) (hin : ∀ e ∈ x, e.in40) (hk : ∀ e ∈ x, aget e.key s.A ≠ none) (hn : (akeys s.A).Nodup) (hP : s.P.length ≤ 65536) :
    AC Try.prog 24 [.ptr 1000 0, .d (.sc (.string t)), .d (.sl 3 (x.map Ent.enc))] (hL s) [1000, 1001, 1003]
    (fun r h' => r = .d (.sc (.int .i64 ((s.P.length : Int) + 1))) ∧ SubH (hL (enterS s t x)) h') := by
  have cc := changes_ac x hx hin
  have hkC := emap_nodup (cv := iV) k2V_inj (chgL_keys x).1
  have hlP : (s.P.map Post.enc).length = s.P.length := by simp
  refine AC_enter Try.func24 rfl Try.ntmps24 (rv := [.tmp 6]) rfl rfl (by simp) (fun w X G => ?_)
  repeat' (first | ((with_reducible refine gA ?_); (first | refine AW_seq ?_ | refine AW_region ?_ | refine AW_block ?_)) | ((with_reducible refine gS ?_); refine Es_s (T := Try.tab) rfl rfl rfl rfl ?_) | (((with_reducible refine gS ?_); apply Es_xg); rfl; rfl; (first | refine LStep_callHN [] [(8, 15), (9, 1500)] cc rfl rfl trivial rfl trivial rfl rfl | refine LStep_range (T := Try.tab) rfl rfl rfl rfl rfl rfl rfl); rfl) | (with_reducible refine Es_nil ?_) | (with_reducible refine then_n ?_))
  refine AW_forE (S := List (K2 × Int) × List (K2 × Int) × Option Value) (fun t => (t.2.1 ++ t.1).Perm (chgL x)) (fun _ => [])
    (fun t => [(1001, some (.map 70 72 (emap k2V aV (s.A.map (addAcc (chgL x) (hasK t.2.1)))) none)), (15, some (.map 70 2 (emap k2V iV (chgL x)) (some (19, (emap k2V iV t.1).map (·.1), t.2.2))))]) (fun s => s.1.length) (chgL x, [], none) (List.Perm.refl _) (by (repeat' (first | exact trivial | exact rfl | (refine ⟨Or.inl rfl, ?_⟩) | (refine ⟨Or.inr rfl, ?_⟩) | (refine ⟨Or.inr trivial, ?_⟩) | (refine ⟨rfl, ?_⟩) | (refine ⟨?_, ?_⟩)))) ?_ ?_
  · have e : s.A.map (addAcc (chgL x) (hasK [])) = s.A := by
      refine (List.map_congr_left (fun q _ => ?_)).trans (List.map_id _)
      simp [addAcc, hasK]
    dsimp only
    rw [e]
    (repeat' (first | exact trivial | exact rfl | (refine ⟨Or.inl rfl, ?_⟩) | (refine ⟨Or.inr rfl, ?_⟩) | (refine ⟨Or.inr trivial, ?_⟩) | (refine ⟨rfl, ?_⟩) | (refine ⟨?_, ?_⟩)))
  intro ⟨mt, acc, cur⟩ hp
  dsimp only at hp ⊢
  have hn2 : ((acc ++ mt).map (·.1)).Nodup := (hp.map (fun q => q.1)).nodup_iff.2 (show ((chgL x).map (fun q => q.1)).Nodup from (chgL_keys x).1)
  have hn3 : ((emap k2V iV mt).map (·.1)).Nodup := by
    have h1 : (emap k2V iV (acc ++ mt)).Perm (emap k2V iV (chgL x)) := hp.map _
    have h2 := (h1.map (·.1)).nodup_iff.2 hkC
    rw [etodo_join, List.nodup_append] at h2
    exact h2.2.1
  repeat' (first | ((with_reducible refine gS ?_); refine Es_next 15 rfl rfl rfl rfl rfl rfl hkC hn3 (fun h0 => ?_) (fun pre k post h0 => ?_)) | ((with_reducible refine gA ?_); (first | refine AW_seq ?_ | refine AW_region ?_ | refine AW_condT rfl ?_ | refine AW_condF rfl ?_ | refine AW_block ?_ | refine AW_skip ?_ | refine AW_exit ?_)) | ((with_reducible refine gS ?_); refine Es_s (T := Try.tab) rfl rfl rfl rfl ?_) | (refine Es_skip rfl ?_ rfl ?_; (first | rfl | (refine w_tf ?_; assumption) | (refine w_ft ?_; assumption))) | (with_reducible refine Es_nil ?_) | (with_reducible refine then_n ?_) | (with_reducible refine then_e ?_) | ((with_reducible refine block_e ?_ ?_); rfl))
  rotate_left
  · obtain ⟨a, p, b, rfl, rfl, rfl, rfl⟩ := etodo_split h0
    have hpm : p ∈ chgL x := hp.mem_iff.1 (by simp)
    have hmem : (k2V p.1, iV p.2) ∈ emap k2V iV (chgL x) := List.mem_map.2 ⟨p, hpm, rfl⟩
    obtain ⟨ac, hac⟩ : ∃ a, aget p.1 s.A = some a := by
      obtain ⟨e, he, hek⟩ := ((chgL_keys x).2 p.1).1 (List.mem_map.2 ⟨p, hpm, rfl⟩)
      cases hq : aget p.1 s.A with
      | none => exact absurd (hek ▸ hq) (hk e he)
      | some a => exact ⟨a, rfl⟩
    have hpc : aget p.1 (chgL x) = some p.2 := aget_of_mem (chgL_keys x).1 hpm
    have hnot : hasK acc p.1 = false := by
      unfold hasK
      rw [List.any_eq_false]
      intro q hq e
      rw [decide_eq_true_eq] at e
      rw [List.map_append, List.nodup_append] at hn2
      exact hn2.2.2 _ (List.mem_map.2 ⟨q, hq, e⟩) p.1 (by simp) rfl
    have hac' : aget p.1 (s.A.map (addAcc (chgL x) (hasK acc))) = some ac := by
      rw [aget_map (addAcc_key _ _), hac, Option.map_some]
      unfold addAcc
      rw [hnot, if_neg Bool.false_ne_true]
    have hput : aput p.1 ⟨ac.floor, wrp .i64 (ac.bal + p.2), ac.held⟩ (s.A.map (addAcc (chgL x) (hasK acc))) = s.A.map (addAcc (chgL x) (hasK (acc ++ [p]))) := by
      refine aput_map (addAcc_key _ _) (fun q hq => ?_) s.A hn (List.mem_map.2 ⟨_, aget_mem hac, rfl⟩) (fun a ha => ?_)
      · have hq' : ¬ p.1 = q.1 := fun e => hq e.symm
        unfold addAcc
        rw [hasK_snoc, decide_eq_false hq', Bool.or_false]
      · have := aget_of_mem hn ha
        rw [hac] at this
        cases this
        unfold addAcc
        rw [hasK_snoc, decide_eq_true rfl, Bool.or_true, if_pos rfl, hpc]
    have hm := mfind_some (cv := aV) k2V_keq hac'
    have hmp := mput_emap (cv := aV) k2V_keq p.1 ⟨ac.floor, wrp .i64 (ac.bal + p.2), ac.held⟩ (s.A.map (addAcc (chgL x) (hasK acc)))
    rw [hput] at hmp
    repeat' (first | ((with_reducible refine gA ?_); (first | refine AW_seq ?_ | refine AW_region ?_ | refine AW_regionD Try.mixed ?_)) | (first | ((with_reducible refine gS ?_); refine Es_s (T := Try.tab) rfl rfl rfl rfl ?_) | ((with_reducible refine gD ?_); refine Ed_s (T := Try.tab) rfl rfl rfl rfl ?_)) | ((first | ((with_reducible refine gS ?_); apply Es_q) | ((with_reducible refine gD ?_); apply Ed_q)); rfl; rfl; (first | refine LStep_entry (kav := .agg [.d (.sc (.string p.1.1)), .d (.sc (.string p.1.2))]) 15 hmem rfl rfl rfl rfl hkC (k2_rep p.1) | refine LStep_lookup (T := Try.tab) rfl rfl rfl keyK2 rfl rfl rfl rfl (k2_keys _) hm)) | ((first | ((with_reducible refine gS ?_); apply Es_xn) | ((with_reducible refine gD ?_); apply Ed_xn)); rfl; rfl; refine LStep_mapUpdate (T := Try.tab) rfl rfl rfl keyK2 rfl rfl rfl rfl rfl (k2_keys _) rfl; rfl) | ((first | ((with_reducible refine gS ?_); apply Es_q) | ((with_reducible refine gD ?_); apply Ed_q)); rfl; rfl; refine LStep_wrap (T := Try.tab) rfl rfl) | ((first | refine Es_skip rfl ?_ rfl ?_ | refine Ed_skip rfl ?_ rfl ?_); (first | rfl | (refine w_tf ?_; assumption) | (refine w_ft ?_; assumption))) | ((first | ((with_reducible refine gS ?_); apply Es_xs) | ((with_reducible refine gD ?_); apply Ed_xs)); rfl; rfl; refine LStep_allocN (T := Try.tab) rfl rfl rfl rfl rfl rfl; rfl) | ((first | ((with_reducible refine gS ?_); apply Es_xn) | ((with_reducible refine gD ?_); apply Ed_xn)); rfl; rfl; (refine LStep_storeN (T := Try.tab) rfl rfl rfl rfl rfl rfl rfl ?_ rfl; (refine Nat.le_of_ble_eq_true ?_; rfl)); rfl) | (with_reducible refine Es_nil ?_) | ((with_reducible refine Ed_nil ?_ ?_); kernel_rfl) | (with_reducible refine then_n ?_) | (with_reducible refine block_n ?_))
    refine ⟨(a ++ b, acc ++ [p], some (k2V p.1)), perm_mid hp, by simp, by (repeat' (first | exact trivial | exact rfl | (refine ⟨Or.inl rfl, ?_⟩) | (refine ⟨Or.inr rfl, ?_⟩) | (refine ⟨Or.inr trivial, ?_⟩) | (refine ⟨rfl, ?_⟩) | (refine ⟨?_, ?_⟩))), by (repeat' (first | exact trivial | exact rfl | (refine ⟨Or.inl rfl, ?_⟩) | (refine ⟨Or.inr rfl, ?_⟩) | (refine ⟨Or.inr trivial, ?_⟩) | (refine ⟨rfl, ?_⟩) | (refine ⟨?_, ?_⟩))), ?_, by (repeat' (first | exact trivial | exact rfl | (refine ⟨Or.inl rfl, ?_⟩) | (refine ⟨Or.inr rfl, ?_⟩) | (refine ⟨Or.inr trivial, ?_⟩) | (refine ⟨rfl, ?_⟩) | (refine ⟨?_, ?_⟩)))⟩
    dsimp only; rw [etodo_join, ← hmp]; (repeat' (first | exact trivial | exact rfl | (refine ⟨Or.inl rfl, ?_⟩) | (refine ⟨Or.inr rfl, ?_⟩) | (refine ⟨Or.inr trivial, ?_⟩) | (refine ⟨rfl, ?_⟩) | (refine ⟨?_, ?_⟩)))
  have hm0 := etodo_nil h0
  subst hm0
  rw [List.append_nil] at hp
  have hA : s.A.map (addAcc (chgL x) (hasK acc)) = enterA (chgL x) s.A := by
    refine List.map_congr_left (fun q _ => ?_)
    unfold addAcc
    cases hq : aget q.1 (chgL x) with
    | none => simp
    | some d =>
      have : hasK acc q.1 = true := by
        unfold hasK
        rw [List.any_eq_true]
        exact ⟨_, hp.mem_iff.2 (aget_mem hq), by simp⟩
      rw [this]
  rw [hA]
  clear hn3 h0 hp hn2 hA
  have hcl := cloneE_ac x (by omega)
  repeat' (first | ((with_reducible refine gA ?_); (first | refine AW_seq ?_ | refine AW_region ?_ | refine AW_regionD Try.mixed ?_ | refine AW_ret ?_)) | (first | ((with_reducible refine gS ?_); refine Es_s (T := Try.tab) rfl rfl rfl rfl ?_) | ((with_reducible refine gD ?_); refine Ed_s (T := Try.tab) rfl rfl rfl rfl ?_)) | ((first | ((with_reducible refine gS ?_); apply Es_q) | ((with_reducible refine gD ?_); apply Ed_q)); rfl; rfl; (first | refine LStep_lenOwn (T := Try.tab) rfl rfl rfl rfl rfl rfl | refine LStep_call (hcl) rfl rfl rfl rfl)) | ((first | ((with_reducible refine gS ?_); apply Es_xs) | ((with_reducible refine gD ?_); apply Ed_xs)); rfl; rfl; (refine LStep_append (T := Try.tab) rfl rfl rfl rfl rfl rfl rfl rfl rfl rfl ?_ ?_ ?_; rfl; (rw [List.length_map]; simp only [List.length_cons, List.length_nil]; omega); (unfold maxLen; rw [List.length_map]; simp only [List.length_cons, List.length_nil]; omega)); rfl) | ((first | ((with_reducible refine gS ?_); apply Es_q) | ((with_reducible refine gD ?_); apply Ed_q)); rfl; rfl; (first | (refine LStep_add rfl rfl rfl rfl ?_; (refine IntWalk.i64_in _ ?_; first | omega | (simp only [cmps] at *; omega))) | (refine LStep_lit (T := Try.tab) rfl rfl rfl rfl rfl rfl rfl rfl ?_; (refine Nat.le_of_ble_eq_true ?_; rfl)) | refine LStep_buildN (T := Try.tab) rfl rfl rfl rfl rfl rfl rfl)) | (((with_reducible refine gD ?_); apply Ed_xn); rfl; rfl; (refine LStep_storeN (T := Try.tab) rfl rfl rfl rfl rfl rfl rfl ?_ rfl; (refine Nat.le_of_ble_eq_true ?_; rfl)); rfl) | (with_reducible refine Es_nil ?_) | ((with_reducible refine Ed_nil ?_ ?_); kernel_rfl) | (with_reducible refine then_n ?_) | ((with_reducible refine gR ?_); first | refine ret1 rfl ?_ | refine ret2 rfl rfl ?_ | refine ret0 ?_ | refine end1 rfl ?_ | refine end0 ?_))
  have hE : (enterS s t x).P.map Post.enc = s.P.map Post.enc ++ [[D.sc (.int .i64 ((s.P.length : Int) + 1)), D.sc (.string t), D.sl 3 (x.map Ent.enc)]] := by simp [enterS, Post.enc]
  have e1 : hL (enterS s t x) = [(1000, some (.cells [.mp 1001, .own 1002 (s.P.map Post.enc ++ [[D.sc (.int .i64 ((s.P.length : Int) + 1)), D.sc (.string t), D.sl 3 (x.map Ent.enc)]]).length, .mp 1003])), (1001, some (.map 70 72 (emap k2V aV (enterA (chgL x) s.A)) none)),
      (1002, some (.arr 109 3 (s.P.map Post.enc ++ [[D.sc (.int .i64 ((s.P.length : Int) + 1)), D.sc (.string t), D.sl 3 (x.map Ent.enc)]]))), (1003, some (.map 9 185 (emap sV hV s.H) none))] := by unfold hL; rw [hE]; rfl
  rw [hlP, e1]
  exact ⟨rfl, rfl, rfl, rfl, rfl, trivial⟩
theorem enter_grows (s : Led) (t : ByteArray) (x : List Ent) : (s.P.map Post.enc).length < ((enterS s t x).P.map Post.enc).length := by simp [enterS]
/-- a post, or an error -/
def postE (s : Led) (t : ByteArray) (x : List Ent) : Int :=
  if t.size > 4096 ∨ x.length = 0 ∨ x.length > 64 then 1 else if s.P.length ≥ 4096 then 7 else refS s.A x
theorem refS_ok {A : List (K2 × Acc)} {x : List Ent} (h : refS A x = 0) : (∀ e ∈ x, aget e.key A ≠ none) ∧ (∀ e ∈ x, e.in40) := by
  unfold refS at h
  split at h
  · cases h
  split at h
  · cases h
  rename_i h1 h2
  simp only [Bool.not_eq_true, List.any_eq_false] at h1 h2
  refine ⟨fun e he hq => ?_, fun e he => ?_⟩
  · have := h1 e he
    unfold miss at this
    rw [hq] at this
    simp at this
  · have := h2 e he
    unfold wide at this
    rw [decide_eq_false_iff_not] at this
    unfold Ent.in40
    omega
set_option maxRecDepth 10000 in
set_option maxHeartbeats 4000000 in
/-- a post that is refused -/
theorem postNo_ac (s : Led) (t : ByteArray) (x : List Ent) (hP : s.P.length ≤ 65536) (he : postE s t x ≠ 0) : AC Try.prog 11 [.ptr 1000 0, .d (.sc (.string t)), .d (.sl 3 (x.map Ent.enc))] (hL s) [1000, 1001, 1002, 1003]
    (fun r h' => r = .tup [.d (.sc (.int .i64 0)), .d (.sc (.int .i64 (postE s t x)))] ∧ SubH (hL s) h') := by
  have hlP : (s.P.map Post.enc).length = s.P.length := by simp
  by_cases h0 : t.size > 4096 ∨ x.length = 0 ∨ x.length > 64
  · have he' : postE s t x = 1 := by rw [postE, if_pos h0]
    rw [he']
    refine AC_enter Try.func11 rfl Try.ntmps11 (rv := [.tmp 6, .tmp 7]) rfl rfl (by simp) (fun w X G => ?_)
    repeat' (first | ((with_reducible refine gA ?_); (first | refine AW_seq ?_ | refine AW_region ?_ | refine AW_condT rfl ?_ | (refine AW_cond rfl (fun hc => ?_) (fun hc => ?_) <;> try (exfalso; simp only [cmpL] at hc; omega)) | refine AW_ret ?_ | refine AW_skip ?_)) | ((with_reducible refine gS ?_); refine Es_s (T := Try.tab) rfl rfl rfl rfl ?_) | (((with_reducible refine gS ?_); apply Es_q); rfl; (first | rfl | (refine w_ff ?_; assumption)); refine LStep_lenOwn (T := Try.tab) rfl rfl rfl rfl rfl rfl) | (((with_reducible refine gS ?_); apply Es_q); rfl; (first | rfl | (refine w_ff ?_; assumption)); (first | refine LStep_simp (T := Try.tab) rfl rfl | refine LStep_lenM (T := Try.tab) rfl rfl rfl rfl | refine LStep_wrap (T := Try.tab) rfl rfl | (refine LStep_pickT rfl rfl ?_ rfl rfl; assumption) | (refine LStep_pickF rfl rfl ?_ rfl rfl; assumption))) | (refine Es_skip rfl ?_ rfl ?_; (first | rfl | (refine w_tf ?_; assumption) | (refine w_ft ?_; assumption))) | (refine Es_split rfl ?_ (fun _ => ?_) (fun _ => ?_); ((fail_if_success (refine und_t ?_; assumption)); (fail_if_success (refine und_f ?_; assumption)); exact trivial)) | (with_reducible refine Es_nil ?_) | (with_reducible refine then_n ?_) | (with_reducible refine then_r ?_) | ((with_reducible refine gR ?_); first | refine ret1 rfl ?_ | refine ret2 rfl rfl ?_ | refine ret0 ?_ | refine end1 rfl ?_ | refine end0 ?_))
    all_goals simp only [cmps] at *
    all_goals first
      | (exfalso; omega)
      | exact ⟨by first | rfl | trivial, rfl, rfl, rfl, rfl, trivial⟩
  by_cases h1 : s.P.length ≥ 4096
  · have he' : postE s t x = 7 := by rw [postE, if_neg h0, if_pos h1]
    rw [he']
    refine AC_enter Try.func11 rfl Try.ntmps11 (rv := [.tmp 6, .tmp 7]) rfl rfl (by simp) (fun w X G => ?_)
    repeat' (first | ((with_reducible refine gA ?_); (first | refine AW_seq ?_ | refine AW_region ?_ | refine AW_condT rfl ?_ | (refine AW_cond rfl (fun hc => ?_) (fun hc => ?_) <;> try (exfalso; simp only [cmpL] at hc; omega)) | refine AW_ret ?_ | refine AW_skip ?_)) | ((with_reducible refine gS ?_); refine Es_s (T := Try.tab) rfl rfl rfl rfl ?_) | (((with_reducible refine gS ?_); apply Es_q); rfl; (first | rfl | (refine w_ff ?_; assumption)); refine LStep_lenOwn (T := Try.tab) rfl rfl rfl rfl rfl rfl) | (((with_reducible refine gS ?_); apply Es_q); rfl; (first | rfl | (refine w_ff ?_; assumption)); (first | refine LStep_simp (T := Try.tab) rfl rfl | refine LStep_lenM (T := Try.tab) rfl rfl rfl rfl | refine LStep_wrap (T := Try.tab) rfl rfl | (refine LStep_pickT rfl rfl ?_ rfl rfl; assumption) | (refine LStep_pickF rfl rfl ?_ rfl rfl; assumption))) | (refine Es_skip rfl ?_ rfl ?_; (first | rfl | (refine w_tf ?_; assumption) | (refine w_ft ?_; assumption))) | (refine Es_split rfl ?_ (fun _ => ?_) (fun _ => ?_); ((fail_if_success (refine und_t ?_; assumption)); (fail_if_success (refine und_f ?_; assumption)); exact trivial)) | (with_reducible refine Es_nil ?_) | (with_reducible refine then_n ?_) | (with_reducible refine then_r ?_) | ((with_reducible refine gR ?_); first | refine ret1 rfl ?_ | refine ret2 rfl rfl ?_ | refine ret0 ?_ | refine end1 rfl ?_ | refine end0 ?_))
    all_goals simp only [cmps] at *
    all_goals first
      | (exfalso; omega)
      | exact ⟨by first | rfl | trivial, rfl, rfl, rfl, rfl, trivial⟩
  have he' : postE s t x = refS s.A x := by rw [postE, if_neg h0, if_neg h1]
  rw [he'] at he ⊢
  have cr := refused_ac s x (by omega)
  generalize refS s.A x = e at *
  refine AC_enter Try.func11 rfl Try.ntmps11 (rv := [.tmp 6, .tmp 7]) rfl rfl (by simp) (fun w X G => ?_)
  repeat' (first | ((with_reducible refine gA ?_); (first | refine AW_seq ?_ | refine AW_region ?_ | refine AW_condT rfl ?_ | (refine AW_cond rfl (fun hc => ?_) (fun hc => ?_) <;> try (exfalso; simp only [cmpL] at hc; omega)) | refine AW_ret ?_ | refine AW_skip ?_)) | ((with_reducible refine gS ?_); refine Es_s (T := Try.tab) rfl rfl rfl rfl ?_) | (((with_reducible refine gS ?_); apply Es_q); rfl; (first | rfl | (refine w_ff ?_; assumption)); refine LStep_lenOwn (T := Try.tab) rfl rfl rfl rfl rfl rfl) | (((with_reducible refine gS ?_); apply Es_xg); rfl; (first | rfl | (refine w_ff ?_; assumption)); refine LStep_callHN [] [] cr rfl rfl ⟨rfl, rfl, rfl, rfl, trivial⟩ rfl ⟨trivial, trivial, rfl, trivial, trivial⟩ rfl rfl; rfl) | (((with_reducible refine gS ?_); apply Es_q); rfl; (first | rfl | (refine w_ff ?_; assumption)); (first | refine LStep_simp (T := Try.tab) rfl rfl | refine LStep_lenM (T := Try.tab) rfl rfl rfl rfl | refine LStep_wrap (T := Try.tab) rfl rfl | (refine LStep_pickT rfl rfl ?_ rfl rfl; assumption) | (refine LStep_pickF rfl rfl ?_ rfl rfl; assumption))) | (refine Es_skip rfl ?_ rfl ?_; (first | rfl | (refine w_tf ?_; assumption) | (refine w_ft ?_; assumption))) | (refine Es_split rfl ?_ (fun _ => ?_) (fun _ => ?_); ((fail_if_success (refine und_t ?_; assumption)); (fail_if_success (refine und_f ?_; assumption)); exact trivial)) | (with_reducible refine Es_nil ?_) | (with_reducible refine then_n ?_) | (with_reducible refine then_r ?_) | ((with_reducible refine gR ?_); first | refine ret1 rfl ?_ | refine ret2 rfl rfl ?_ | refine ret0 ?_ | refine end1 rfl ?_ | refine end0 ?_))
  all_goals simp only [cmps] at *
  all_goals first
    | (exfalso; omega)
    | exact ⟨by first | rfl | trivial, rfl, rfl, rfl, rfl, trivial⟩
set_option maxRecDepth 10000 in
set_option maxHeartbeats 4000000 in
/-- a post that is entered -/
theorem postOk_ac (s : Led) (t : ByteArray) (x : List Ent) (hn : (akeys s.A).Nodup) (he : postE s t x = 0) : AC Try.prog 11 [.ptr 1000 0, .d (.sc (.string t)), .d (.sl 3 (x.map Ent.enc))] (hL s) [1000, 1001, 1003]
    (fun r h' => r = .tup [.d (.sc (.int .i64 ((s.P.length : Int) + 1))), .d (.sc (.int .i64 0))] ∧ SubH (hL (enterS s t x)) h') := by
  have hlP : (s.P.map Post.enc).length = s.P.length := by simp
  by_cases h0 : t.size > 4096 ∨ x.length = 0 ∨ x.length > 64
  · rw [postE, if_pos h0] at he; cases he
  by_cases h1 : s.P.length ≥ 4096
  · rw [postE, if_neg h0, if_pos h1] at he; cases he
  rw [postE, if_neg h0, if_neg h1] at he
  have cr := refused_ac s x (by omega)
  rw [he] at cr
  obtain ⟨g1, g2⟩ := refS_ok he
  have ce := enter_ac s t x (by omega) g2 g1 hn (by omega)
  have hgr := enter_grows s t x
  refine AC_enter Try.func11 rfl Try.ntmps11 (rv := [.tmp 6, .tmp 7]) rfl rfl (by simp) (fun w X G => ?_)
  repeat' (first | ((with_reducible refine gA ?_); (first | refine AW_seq ?_ | refine AW_region ?_ | refine AW_condT rfl ?_ | (refine AW_cond rfl (fun hc => ?_) (fun hc => ?_) <;> try (exfalso; simp only [cmpL] at hc; omega)) | refine AW_ret ?_ | refine AW_skip ?_)) | ((with_reducible refine gS ?_); refine Es_s (T := Try.tab) rfl rfl rfl rfl ?_) | (((with_reducible refine gS ?_); apply Es_q); rfl; (first | rfl | (refine w_ff ?_; assumption)); refine LStep_lenOwn (T := Try.tab) rfl rfl rfl rfl rfl rfl) | (((with_reducible refine gS ?_); apply Es_xg); rfl; (first | rfl | (refine w_ff ?_; assumption)); (first | refine LStep_callHN [] [] cr rfl rfl ⟨rfl, rfl, rfl, rfl, trivial⟩ rfl ⟨trivial, trivial, rfl, trivial, trivial⟩ rfl rfl | refine LStep_callGN [1002] [] [] ce rfl rfl ⟨rfl, rfl, rfl, rfl, trivial⟩ rfl ⟨trivial, trivial, hgr, trivial, trivial⟩ rfl rfl); rfl) | (((with_reducible refine gS ?_); apply Es_q); rfl; (first | rfl | (refine w_ff ?_; assumption)); (first | refine LStep_simp (T := Try.tab) rfl rfl | refine LStep_lenM (T := Try.tab) rfl rfl rfl rfl | refine LStep_wrap (T := Try.tab) rfl rfl | (refine LStep_pickT rfl rfl ?_ rfl rfl; assumption) | (refine LStep_pickF rfl rfl ?_ rfl rfl; assumption))) | (refine Es_skip rfl ?_ rfl ?_; (first | rfl | (refine w_tf ?_; assumption) | (refine w_ft ?_; assumption))) | (refine Es_split rfl ?_ (fun _ => ?_) (fun _ => ?_); ((fail_if_success (refine und_t ?_; assumption)); (fail_if_success (refine und_f ?_; assumption)); exact trivial)) | (with_reducible refine Es_nil ?_) | (with_reducible refine then_n ?_) | (with_reducible refine then_r ?_) | ((with_reducible refine gR ?_); first | refine ret1 rfl ?_ | refine ret2 rfl rfl ?_ | refine ret0 ?_ | refine end1 rfl ?_ | refine end0 ?_))
  all_goals simp only [cmps] at *
  all_goals first
    | (exfalso; omega)
    | exact ⟨by first | rfl | trivial, rfl, rfl, rfl, rfl, trivial⟩
end Go.Proofs.Ytofdnkgieigncaa
