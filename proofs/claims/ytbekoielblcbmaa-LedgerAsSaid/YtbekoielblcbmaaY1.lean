import Derived.Test.YtbekoielblcbmaaX4
namespace Go.Proofs.Ytbekoielblcbmaa
open Go.SL
/-! ### Accounts -/
set_option maxRecDepth 10000 in
theorem or_ac (a b : Int) : AC Try.prog 49 [.d (.sl 1 [[.sc (.int .i64 a)], [.sc (.int .i64 b)]])] [] [] (fun r _ => r = .d (.sc (.int .i64 (if a ≠ 0 then a else b)))) := by
  refine AC_enter Try.func49 rfl Try.ntmps49 (rv := [.tmp 2]) rfl rfl (by simp) (fun w X G => ?_)
  repeat' (first | ((with_reducible refine gA ?_); (first | refine AW_seq ?_ | refine AW_region ?_ | refine AW_block ?_)) | ((with_reducible refine gS ?_); refine Es_s (T := Try.tab) rfl rfl rfl rfl ?_) | (((with_reducible refine gS ?_); apply Es_q); rfl; rfl; refine LStep_wrap (T := Try.tab) rfl rfl) | (with_reducible refine Es_nil ?_) | (with_reducible refine then_n ?_))
  refine AW_forE (S := Nat) (fun k => k ≤ 2 ∧ (0 < k → a = 0) ∧ (1 < k → b = 0)) (fun k => [(8, .d (.sc (.int .i64 (k : Nat))))]) (fun _ => []) (fun k => 2 - k) 0 ⟨by omega, by omega, by omega⟩ (by (repeat' (first | exact trivial | exact rfl | (refine ⟨Or.inl rfl, ?_⟩) | (refine ⟨Or.inr rfl, ?_⟩) | (refine ⟨Or.inr trivial, ?_⟩) | (refine ⟨rfl, ?_⟩) | (refine ⟨?_, ?_⟩)))) (by (repeat' (first | exact trivial | exact rfl | (refine ⟨Or.inl rfl, ?_⟩) | (refine ⟨Or.inr rfl, ?_⟩) | (refine ⟨Or.inr trivial, ?_⟩) | (refine ⟨rfl, ?_⟩) | (refine ⟨?_, ?_⟩)))) ?_
  intro k ⟨hk, hf, hg⟩
  match k, hk with
  | 0, _ =>
    repeat' (first | ((with_reducible refine gA ?_); (first | refine AW_seq ?_ | refine AW_region ?_ | (refine AW_cond rfl (fun hc => ?_) (fun hc => ?_) <;> try (exfalso; simp only [cmpL] at hc; omega)) | refine AW_block ?_ | refine AW_ret ?_ | refine AW_skip ?_)) | ((with_reducible refine gS ?_); refine Es_s (T := Try.tab) rfl rfl rfl rfl ?_) | (((with_reducible refine gS ?_); apply Es_q); rfl; rfl; (first | (refine LStep_add rfl rfl rfl rfl ?_; (refine IntWalk.i64_in _ ?_; first | omega | (simp only [cmps] at *; omega))) | (refine LStep_index (T := Try.tab) (c := ?_) rfl rfl rfl rfl rfl rfl ?_ ?_; rotate_left; omega; (first | assumption | rfl)))) | (with_reducible refine Es_nil ?_) | (with_reducible refine then_n ?_) | (with_reducible refine then_r ?_) | (with_reducible refine block_n ?_) | (with_reducible refine block_r ?_) | ((with_reducible refine gR ?_); first | refine ret1 rfl ?_ | refine ret2 rfl rfl ?_ | refine ret0 ?_ | refine end1 rfl ?_ | refine end0 ?_))
    all_goals simp only [cmps] at *
    all_goals first
      | (rw [if_pos (by omega)]; done)
      | (refine ⟨1, ?_, by omega, by (repeat' (first | exact trivial | exact rfl | (refine ⟨Or.inl rfl, ?_⟩) | (refine ⟨Or.inr rfl, ?_⟩) | (refine ⟨Or.inr trivial, ?_⟩) | (refine ⟨rfl, ?_⟩) | (refine ⟨?_, ?_⟩))), by (repeat' (first | exact trivial | exact rfl | (refine ⟨Or.inl rfl, ?_⟩) | (refine ⟨Or.inr rfl, ?_⟩) | (refine ⟨Or.inr trivial, ?_⟩) | (refine ⟨rfl, ?_⟩) | (refine ⟨?_, ?_⟩))), by (repeat' (first | exact trivial | exact rfl | (refine ⟨Or.inl rfl, ?_⟩) | (refine ⟨Or.inr rfl, ?_⟩) | (refine ⟨Or.inr trivial, ?_⟩) | (refine ⟨rfl, ?_⟩) | (refine ⟨?_, ?_⟩))), by (repeat' (first | exact trivial | exact rfl | (refine ⟨Or.inl rfl, ?_⟩) | (refine ⟨Or.inr rfl, ?_⟩) | (refine ⟨Or.inr trivial, ?_⟩) | (refine ⟨rfl, ?_⟩) | (refine ⟨?_, ?_⟩)))⟩; exact ⟨by omega, by omega, by omega⟩)
  | 1, _ =>
    repeat' (first | ((with_reducible refine gA ?_); (first | refine AW_seq ?_ | refine AW_region ?_ | (refine AW_cond rfl (fun hc => ?_) (fun hc => ?_) <;> try (exfalso; simp only [cmpL] at hc; omega)) | refine AW_block ?_ | refine AW_ret ?_ | refine AW_skip ?_)) | ((with_reducible refine gS ?_); refine Es_s (T := Try.tab) rfl rfl rfl rfl ?_) | (((with_reducible refine gS ?_); apply Es_q); rfl; rfl; (first | (refine LStep_add rfl rfl rfl rfl ?_; (refine IntWalk.i64_in _ ?_; first | omega | (simp only [cmps] at *; omega))) | (refine LStep_index (T := Try.tab) (c := ?_) rfl rfl rfl rfl rfl rfl ?_ ?_; rotate_left; omega; (first | assumption | rfl)))) | (with_reducible refine Es_nil ?_) | (with_reducible refine then_n ?_) | (with_reducible refine then_r ?_) | (with_reducible refine block_n ?_) | (with_reducible refine block_r ?_) | ((with_reducible refine gR ?_); first | refine ret1 rfl ?_ | refine ret2 rfl rfl ?_ | refine ret0 ?_ | refine end1 rfl ?_ | refine end0 ?_))
    all_goals simp only [cmps] at *
    all_goals first
      | (rw [if_neg (by omega)]; done)
      | (refine ⟨2, ?_, by omega, by (repeat' (first | exact trivial | exact rfl | (refine ⟨Or.inl rfl, ?_⟩) | (refine ⟨Or.inr rfl, ?_⟩) | (refine ⟨Or.inr trivial, ?_⟩) | (refine ⟨rfl, ?_⟩) | (refine ⟨?_, ?_⟩))), by (repeat' (first | exact trivial | exact rfl | (refine ⟨Or.inl rfl, ?_⟩) | (refine ⟨Or.inr rfl, ?_⟩) | (refine ⟨Or.inr trivial, ?_⟩) | (refine ⟨rfl, ?_⟩) | (refine ⟨?_, ?_⟩))), by (repeat' (first | exact trivial | exact rfl | (refine ⟨Or.inl rfl, ?_⟩) | (refine ⟨Or.inr rfl, ?_⟩) | (refine ⟨Or.inr trivial, ?_⟩) | (refine ⟨rfl, ?_⟩) | (refine ⟨?_, ?_⟩))), by (repeat' (first | exact trivial | exact rfl | (refine ⟨Or.inl rfl, ?_⟩) | (refine ⟨Or.inr rfl, ?_⟩) | (refine ⟨Or.inr trivial, ?_⟩) | (refine ⟨rfl, ?_⟩) | (refine ⟨?_, ?_⟩)))⟩; exact ⟨by omega, by omega, by omega⟩)
  | 2, _ =>
    repeat' (first | ((with_reducible refine gA ?_); (first | refine AW_seq ?_ | refine AW_region ?_ | (refine AW_cond rfl (fun hc => ?_) (fun hc => ?_) <;> try (exfalso; simp only [cmpL] at hc; omega)) | refine AW_ret ?_ | refine AW_exit ?_)) | ((with_reducible refine gS ?_); refine Es_s (T := Try.tab) rfl rfl rfl rfl ?_) | (with_reducible refine Es_nil ?_) | (with_reducible refine then_n ?_) | (with_reducible refine then_e ?_) | ((with_reducible refine block_e ?_ ?_); rfl) | ((with_reducible refine gR ?_); first | refine ret1 rfl ?_ | refine ret2 rfl rfl ?_ | refine ret0 ?_ | refine end1 rfl ?_ | refine end0 ?_))
    all_goals simp only [cmps] at *
    rw [if_neg (by omega), hg (by omega)]
def ctD : List D → ByteArray
  | _ :: .sc (.string b) :: _ => b
  | _ => ⟨#[]⟩
def cmpAc (x y : List D) : Int := if cmpS (idD x) (idD y) ≠ 0 then cmpS (idD x) (idD y) else cmpS (ctD x) (ctD y)
def lt2 (a b c d : ByteArray) : Bool := lts a c || (!lts c a && lts b d)
theorem ltOf_cmpAc (x y : List D) : ltOf cmpAc x y = lt2 (idD x) (ctD x) (idD y) (ctD y) := by
  unfold ltOf cmpAc cmpS lt2
  cases h : lts (idD x) (idD y)
  · cases h2 : lts (idD y) (idD x)
    · cases h3 : lts (ctD x) (ctD y)
      · simp
        split <;> decide
      · simp
    · simp
  · simp
theorem lt2_irrefl (a b : ByteArray) : lt2 a b a b = false := by simp [lt2, lts_irrefl]
theorem lt2_asymm {a b c d : ByteArray} (h : lt2 a b c d = true) : lt2 c d a b = false := by
  unfold lt2 at *
  cases h1 : lts a c
  · rw [h1] at h
    simp at h
    simp [h.1, h1, lts_asymm h.2]
  · simp [lts_asymm h1, h1]
theorem lt2_tri {a b c d : ByteArray} (h : lt2 a b c d = false) (k : lt2 c d a b = false) : a = c ∧ b = d := by
  unfold lt2 at *
  simp at h k
  have e := lts_tri h.1 k.1
  subst e
  have h2 := h.2 h.1
  have k2 := k.2 h.1
  exact ⟨rfl, lts_tri h2 k2⟩
theorem lt2_trans {a b c d e f : ByteArray} (h : lt2 a b c d = true) (k : lt2 c d e f = true) : lt2 a b e f = true := by
  unfold lt2 at *
  cases h1 : lts a c
  · rw [h1] at h
    simp at h
    have e1 := lts_tri h1 h.1
    subst e1
    cases k1 : lts a e
    · rw [k1] at k
      simp at k
      simp [k.1, lts_trans h.2 k.2]
    · simp
  · cases k1 : lts c e
    · rw [k1] at k
      simp at k
      have e1 := lts_tri k1 k.1
      subst e1
      simp [h1]
    · simp [lts_trans h1 k1]
theorem lt2_ntrans {a b c d e f : ByteArray} (h : lt2 a b c d = false) (k : lt2 c d e f = false) : lt2 a b e f = false := by
  cases h1 : lt2 a b e f
  · rfl
  · cases h2 : lt2 c d a b
    · obtain ⟨rfl, rfl⟩ := lt2_tri h h2
      rw [k] at h1
      cases h1
    · rw [lt2_trans h2 h1] at k
      cases k
theorem swoAc : Sort.SWO (ltOf cmpAc) :=
  ⟨fun x => by rw [ltOf_cmpAc]; exact lt2_irrefl _ _, fun x y z h1 h2 => by rw [ltOf_cmpAc] at *; exact lt2_trans h1 h2, fun x y z h1 h2 => by rw [ltOf_cmpAc] at *; exact lt2_ntrans h1 h2⟩
def Ent.cs (e : Ent) : List AV := [.d (.sc (.string e.acct)), .d (.sc (.string e.cur)), .d (.sc (.int .i64 e.amt))]
set_option maxRecDepth 10000 in
theorem accounts1_ac (p q : Ent) : AC Try.prog 48 [.agg p.cs, .agg q.cs] [] [] (fun r _ => r = .d (.sc (.int .i64 (cmpAc p.enc q.enc)))) := by
  have e : cmpAc p.enc q.enc = if cmpS p.acct q.acct ≠ 0 then cmpS p.acct q.acct else cmpS p.cur q.cur := rfl
  rw [e]
  refine AC_enter Try.func48 rfl Try.ntmps48 (rv := [.tmp 4]) rfl rfl (by simp) (fun w X G => ?_)
  repeat' (first | ((with_reducible refine gA ?_); (first | refine AW_seq ?_ | refine AW_region ?_ | refine AW_regionD Try.mixed ?_ | refine AW_ret ?_)) | (first | ((with_reducible refine gS ?_); refine Es_s (T := Try.tab) rfl rfl rfl rfl ?_) | ((with_reducible refine gD ?_); refine Ed_s (T := Try.tab) rfl rfl rfl rfl ?_)) | ((first | ((with_reducible refine gS ?_); apply Es_q) | ((with_reducible refine gD ?_); apply Ed_q)); rfl; rfl; (first | refine LStep_call (compareS_ac _ _) rfl rfl rfl rfl | refine LStep_call (or_ac _ _) rfl rfl rfl rfl)) | ((first | ((with_reducible refine gS ?_); apply Es_q) | ((with_reducible refine gD ?_); apply Ed_q)); rfl; rfl; (refine LStep_lit (T := Try.tab) rfl rfl rfl rfl rfl rfl rfl rfl ?_; (refine Nat.le_of_ble_eq_true ?_; rfl))) | (refine Es_skip rfl ?_ rfl ?_; (first | rfl | (refine w_tf ?_; assumption) | (refine w_ft ?_; assumption))) | (((with_reducible refine gS ?_); apply Es_xs); rfl; rfl; refine LStep_boxN rfl rfl rfl rfl rfl rfl; rfl) | (with_reducible refine Es_nil ?_) | ((with_reducible refine Ed_nil ?_ ?_); kernel_rfl) | (with_reducible refine then_n ?_) | ((with_reducible refine gR ?_); first | refine ret1 rfl ?_ | refine ret2 rfl rfl ?_ | refine ret0 ?_ | refine end1 rfl ?_ | refine end0 ?_))
  rfl
def entOf (p : K2 × Acc) : Ent := ⟨p.1.1, p.1.2, p.2.bal⟩
def entLt (x y : Ent) : Bool := lt2 x.acct x.cur y.acct y.cur
def esort (v : List Ent) : List Ent := v.mergeSort fun x y => !entLt y x
def accsS (s : Led) : List Ent := esort (s.A.map entOf)
theorem esort_perm (v : List Ent) : (esort v).Perm v := List.mergeSort_perm _ _
theorem esort_sorted (v : List Ent) : (esort v).Pairwise fun x y => entLt y x = false := by
  have := List.pairwise_mergeSort (le := fun x y : Ent => !entLt y x) (fun a b c h1 h2 => by simp only [Bool.not_eq_true'] at *; exact lt2_ntrans h2 h1) (fun a b => by
    simp only [Bool.or_eq_true, Bool.not_eq_true']
    cases h : entLt b a
    · exact .inl rfl
    · exact .inr (lt2_asymm h)) v
  exact this.imp (fun h => by simpa using h)
theorem entOf_inj {A : List (K2 × Acc)} (hn : (akeys A).Nodup) {p q : K2 × Acc} (hp : p ∈ A) (hq : q ∈ A) (h1 : p.1.1 = q.1.1) (h2 : p.1.2 = q.1.2) : p = q := by
  have hk : p.1 = q.1 := Prod.ext h1 h2
  have e1 := aget_of_mem hn (k := p.1) (c := p.2) hp
  have e2 := aget_of_mem hn (k := q.1) (c := q.2) hq
  rw [hk, e2] at e1
  exact Prod.ext hk (Option.some.inj e1).symm
set_option maxRecDepth 10000 in
set_option maxHeartbeats 4000000 in
theorem accounts_ac (s : Led) (hs : s.Ok) : AC Try.prog 25 [.ptr 1000 0] (hL s) [1000, 1001, 1002, 1003]
    (fun r h' => r = .d (.sl 3 ((accsS s).map Ent.enc)) ∧ SubH (hL s) h') := by
  have hkA := emap_nodup (cv := aV) k2V_inj hs.nA
  have hlA := hs.lA
  have hlen : (emap k2V aV s.A).length = s.A.length := emap_len _
  have cs : ∀ v : List Ent, v.Perm (s.A.map entOf) → AC Try.prog 47 _ _ _ _ := fun v hv => sortFunc_ac Try.sortEntries 3 Try.isAgg53 Try.sizeOf53 (callable_of Try.func47 rfl rfl) (callable_of Try.func48 rfl rfl)
    53 v.length (v.map Ent.enc) ((accsS s).map Ent.enc) cmpAc swoAc (List.length_map _).symm (by rw [List.length_map, hv.length_eq, List.length_map]; omega)
    (fun x hx y hy => by
      obtain ⟨p, _, rfl⟩ := List.mem_map.1 hx
      obtain ⟨q, _, rfl⟩ := List.mem_map.1 hy
      exact accounts1_ac p q)
    (((esort_perm _).trans hv.symm).map _) (List.pairwise_map.2 ((esort_sorted _).imp (fun h => by rw [ltOf_cmpAc]; exact h)))
    (fun x hx y hy h1 h2 => by
      obtain ⟨p, hp1, rfl⟩ := List.mem_map.1 hx
      obtain ⟨q, hq1, rfl⟩ := List.mem_map.1 hy
      obtain ⟨p', hp2, rfl⟩ := List.mem_map.1 (hv.mem_iff.1 hp1)
      obtain ⟨q', hq2, rfl⟩ := List.mem_map.1 (hv.mem_iff.1 hq1)
      rw [ltOf_cmpAc] at h1 h2
      obtain ⟨e1, e2⟩ := lt2_tri h1 h2
      rw [entOf_inj hs.nA hp2 hq2 e1 e2])
  refine AC_enter Try.func25 rfl Try.ntmps25 (rv := [.tmp 2]) rfl rfl (by simp) (fun w X G => ?_)
  repeat' (first | ((with_reducible refine gA ?_); (first | refine AW_seq ?_ | refine AW_region ?_ | refine AW_block ?_)) | ((with_reducible refine gS ?_); refine Es_s (T := Try.tab) rfl rfl rfl rfl ?_) | (((with_reducible refine gS ?_); apply Es_q); rfl; rfl; refine LStep_lenMap (T := Try.tab) rfl rfl rfl rfl rfl) | (((with_reducible refine gS ?_); apply Es_xs); rfl; rfl; refine LStep_makeOwn (T := Try.tab) rfl rfl rfl rfl rfl rfl rfl rfl rfl rfl (by omega) (by omega) (by omega) (by omega); rfl) | (((with_reducible refine gS ?_); apply Es_xg); rfl; rfl; refine LStep_range (T := Try.tab) rfl rfl rfl rfl rfl rfl rfl; rfl) | (with_reducible refine Es_nil ?_) | (with_reducible refine then_n ?_))
  refine AW_forE (S := List (K2 × Acc) × List (K2 × Acc) × Option Value) (fun t => (t.2.1 ++ t.1).Perm s.A) (fun t => [(3, .own 11 t.2.1.length)])
    (fun t => [(1001, some (.map 75 77 (emap k2V aV s.A) (some (16, (emap k2V aV t.1).map (·.1), t.2.2)))), (11, some (.arr 53 3 (t.2.1.map fun p => (entOf p).enc)))]) (fun s => s.1.length) (s.A, [], none) (List.Perm.refl _) (by (repeat' (first | exact trivial | exact rfl | (refine ⟨Or.inl rfl, ?_⟩) | (refine ⟨Or.inr rfl, ?_⟩) | (refine ⟨Or.inr trivial, ?_⟩) | (refine ⟨rfl, ?_⟩) | (refine ⟨?_, ?_⟩)))) (by (repeat' (first | exact trivial | exact rfl | (refine ⟨Or.inl rfl, ?_⟩) | (refine ⟨Or.inr rfl, ?_⟩) | (refine ⟨Or.inr trivial, ?_⟩) | (refine ⟨rfl, ?_⟩) | (refine ⟨?_, ?_⟩)))) ?_
  intro ⟨mt, acc, cur⟩ hp
  dsimp only at hp ⊢
  have hla : acc.length ≤ 4096 := by have := hp.length_eq; simp only [List.length_append] at this; omega
  have hn3 : ((emap k2V aV mt).map (·.1)).Nodup := by
    have h1 : (emap k2V aV (acc ++ mt)).Perm (emap k2V aV s.A) := hp.map _
    have h2 := (h1.map (·.1)).nodup_iff.2 hkA
    rw [etodo_join, List.nodup_append] at h2
    exact h2.2.1
  refine AW_seq ?_
  refine AW_region ?_
  refine Es_next 1001 rfl rfl rfl rfl rfl rfl hkA hn3 (fun h0 => ?_) (fun pre k post h0 => ?_)
  rotate_left
  · obtain ⟨a, p, b, rfl, rfl, rfl, rfl⟩ := etodo_split h0
    have hpm : p ∈ s.A := hp.mem_iff.1 (by simp)
    have hmem : (k2V p.1, aV p.2) ∈ emap k2V aV s.A := List.mem_map.2 ⟨p, hpm, rfl⟩
    repeat' (first | ((with_reducible refine gA ?_); (first | refine AW_seq ?_ | refine AW_region ?_ | refine AW_condT rfl ?_ | refine AW_block ?_ | refine AW_skip ?_)) | ((with_reducible refine gS ?_); refine Es_s (T := Try.tab) rfl rfl rfl rfl ?_) | (((with_reducible refine gS ?_); apply Es_q); rfl; rfl; refine LStep_entry (kav := .agg [.d (.sc (.string p.1.1)), .d (.sc (.string p.1.2))]) 1001 hmem rfl rfl rfl rfl hkA (k2_rep p.1)) | (((with_reducible refine gS ?_); apply Es_xs); rfl; rfl; (refine LStep_append (T := Try.tab) rfl rfl rfl rfl rfl rfl rfl rfl rfl rfl ?_ ?_ ?_; exact (List.length_map _).symm; (rw [List.length_map]; simp only [List.length_cons, List.length_nil]; omega); (unfold maxLen; rw [List.length_map]; simp only [List.length_cons, List.length_nil]; omega)); rfl) | (((with_reducible refine gS ?_); apply Es_q); rfl; rfl; (first | (refine LStep_lit (T := Try.tab) rfl rfl rfl rfl rfl rfl rfl rfl ?_; (refine Nat.le_of_ble_eq_true ?_; rfl)) | refine LStep_buildN (T := Try.tab) rfl rfl rfl rfl rfl rfl rfl)) | (refine Es_skip rfl ?_ rfl ?_; (first | rfl | (refine w_tf ?_; assumption) | (refine w_ft ?_; assumption))) | (((with_reducible refine gS ?_); apply Es_xs); rfl; rfl; refine LStep_allocN (T := Try.tab) rfl rfl rfl rfl rfl rfl; rfl) | (((with_reducible refine gS ?_); apply Es_xn); rfl; rfl; (refine LStep_storeN (T := Try.tab) rfl rfl rfl rfl rfl rfl rfl ?_ rfl; (refine Nat.le_of_ble_eq_true ?_; rfl)); rfl) | (with_reducible refine Es_nil ?_) | (with_reducible refine then_n ?_) | (with_reducible refine block_n ?_))
    have hE : (acc ++ [p]).map (fun p => (entOf p).enc) = acc.map (fun p => (entOf p).enc) ++ [[.sc (.string p.1.1), .sc (.string p.1.2), .sc (.int .i64 p.2.bal)]] := by rw [List.map_append]; rfl
    have hL : (acc ++ [p]).length = (acc.map (fun p => (entOf p).enc) ++ [[D.sc (.string p.1.1), D.sc (.string p.1.2), D.sc (.int .i64 p.2.bal)]]).length := by simp
    refine ⟨(a ++ b, acc ++ [p], some (k2V p.1)), perm_mid hp, by simp, ?_, by (repeat' (first | exact trivial | exact rfl | (refine ⟨Or.inl rfl, ?_⟩) | (refine ⟨Or.inr rfl, ?_⟩) | (refine ⟨Or.inr trivial, ?_⟩) | (refine ⟨rfl, ?_⟩) | (refine ⟨?_, ?_⟩))), ?_, by (repeat' (first | exact trivial | exact rfl | (refine ⟨Or.inl rfl, ?_⟩) | (refine ⟨Or.inr rfl, ?_⟩) | (refine ⟨Or.inr trivial, ?_⟩) | (refine ⟨rfl, ?_⟩) | (refine ⟨?_, ?_⟩)))⟩
    · dsimp only; rw [hL]; (repeat' (first | exact trivial | exact rfl | (refine ⟨Or.inl rfl, ?_⟩) | (refine ⟨Or.inr rfl, ?_⟩) | (refine ⟨Or.inr trivial, ?_⟩) | (refine ⟨rfl, ?_⟩) | (refine ⟨?_, ?_⟩)))
    · dsimp only; rw [etodo_join, hE]; (repeat' (first | exact trivial | exact rfl | (refine ⟨Or.inl rfl, ?_⟩) | (refine ⟨Or.inr rfl, ?_⟩) | (refine ⟨Or.inr trivial, ?_⟩) | (refine ⟨rfl, ?_⟩) | (refine ⟨?_, ?_⟩)))
  have hm0 := etodo_nil h0
  subst hm0
  rw [List.append_nil] at hp
  have cv := cs (acc.map entOf) (hp.map _)
  rw [List.map_map, List.length_map] at cv
  have hll : (acc.map fun p => (entOf p).enc).length = ((accsS s).map Ent.enc).length := by rw [List.length_map, List.length_map, accsS, (esort_perm _).length_eq, List.length_map, hp.length_eq]
  have hl2 : ((accsS s).map Ent.enc).length = acc.length := by rw [← hll, List.length_map]
  repeat' (first | ((with_reducible refine gRc ?_); first | refine AW_noIt 1001 rfl ?_ | refine AW_freeze [2] (id := 11) ⟨rfl, trivial⟩ rfl hl2 ?_) | ((with_reducible refine gA ?_); (first | refine AW_seq ?_ | refine AW_region ?_ | refine AW_condF rfl ?_ | refine AW_ret ?_ | refine AW_exit ?_)) | ((with_reducible refine gS ?_); refine Es_s (T := Try.tab) rfl rfl rfl rfl ?_) | (((with_reducible refine gS ?_); apply Es_xg); rfl; rfl; refine LStep_callHN [(1000, 11)] [] cv rfl rfl ⟨rfl, trivial⟩ rfl ⟨hll, trivial⟩ rfl rfl; rfl) | (with_reducible refine Es_nil ?_) | (with_reducible refine then_n ?_) | (with_reducible refine then_e ?_) | ((with_reducible refine block_e ?_ ?_); rfl) | ((with_reducible refine gR ?_); first | refine ret1 rfl ?_ | refine ret2 rfl rfl ?_ | refine ret0 ?_ | refine end1 rfl ?_ | refine end0 ?_))
  exact ⟨rfl, rfl, rfl, rfl, rfl, trivial⟩
end Go.Proofs.Ytbekoielblcbmaa
