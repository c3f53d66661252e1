import Derived.Test.YtofdnkgieigncaaRC
import Derived.Test.YtofdnkgieigncaaTk
import Derived.Test.YtofdnkgieigncaaH1
namespace Go.Proofs.Ytofdnkgieigncaa
open Go.SL
/-! ### the chart of a day -/
def rowE (l : List ByteArray) : List (List D) := l.map sN
def nxR (N : List (ByteArray × List ByteArray)) : List (Value × List (List D)) := N.map fun p => (sV p.1, rowE p.2)
theorem nxR_keys (N : List (ByteArray × List ByteArray)) : ∀ p ∈ keysR (nxR N), keyB .string p.1 = true := by
  intro p hp
  unfold keysR nxR at hp
  rw [List.map_map] at hp
  obtain ⟨q, _, rfl⟩ := List.mem_map.1 hp
  rfl
theorem nxR_mat (k : ByteArray) : ∀ (N : List (ByteArray × List ByteArray)) (i : Nat), mat (sV k) (keysR (nxR N)) i = (aget k N).map fun _ => (i + aidx k N, AV.any)
  | [], i => rfl
  | (q, r) :: N, i => by
    show (bif keq (sV k) (sV q) then some (i, AV.any) else mat (sV k) (keysR (nxR N)) (i + 1)) = _
    rw [sV_keq, nxR_mat k N (i + 1), aget, aidx]
    by_cases e : q = k
    · simp [e]
    · simp [e]
      cases aget k N with
      | none => rfl
      | some x => simp; omega
theorem aidx_at {k : ByteArray} : ∀ {N : List (ByteArray × List ByteArray)} {r : List ByteArray}, aget k N = some r → N[aidx k N]? = some (k, r)
  | [], _, h => by cases h
  | (q, r') :: N, r, h => by
    rw [aget] at h
    rw [aidx]
    by_cases e : q = k
    · rw [if_pos e] at h ⊢; cases h; rw [e]; rfl
    · rw [if_neg e] at h ⊢; rw [List.getElem?_cons_succ]; exact aidx_at h
theorem aput_at {k : ByteArray} {c : List ByteArray} : ∀ {N : List (ByteArray × List ByteArray)} {r : List ByteArray}, aget k N = some r → aput k c N = N.set (aidx k N) (k, c)
  | [], _, h => by cases h
  | (q, r') :: N, r, h => by
    rw [aget] at h
    rw [aput, aidx]
    by_cases e : q = k
    · rw [if_pos e, if_pos e]; rfl
    · rw [if_neg e] at h
      rw [if_neg e, if_neg e, List.set_cons_succ, aput_at h]
theorem aput_len {κ α : Type} [DecidableEq κ] (k : κ) (c : α) : ∀ m : List (κ × α), (aput k c m).length ≤ m.length + 1
  | [] => Nat.le_refl _
  | (q, r) :: m => by
    rw [aput]
    split
    · rw [List.length_cons, List.length_cons]; omega
    · have := aput_len k c m
      rw [List.length_cons, List.length_cons]; omega
theorem nxR_at {N : List (ByteArray × List ByteArray)} {k : ByteArray} {r : List ByteArray} (h : aget k N = some r) : (nxR N)[aidx k N]? = some (sV k, rowE r) := by
  unfold nxR
  rw [List.getElem?_map, aidx_at h]
  rfl
theorem nxR_put {N : List (ByteArray × List ByteArray)} {k : ByteArray} {r : List ByteArray} (v : ByteArray) (h : aget k N = some r) : (nxR N).set (aidx k N) (sV k, rowE r ++ [sN v]) = nxR (appR k v N) := by
  unfold appR
  rw [h]
  show _ = nxR (aput k (r ++ [v]) N)
  rw [aput_at h]
  unfold nxR rowE
  rw [List.map_set, List.map_append]
  rfl
theorem nxR_new {N : List (ByteArray × List ByteArray)} {k : ByteArray} (v : ByteArray) (h : aget k N = none) : (nxR N ++ [(sV k, [])])[(nxR N).length]? = some (sV k, []) ∧ (nxR N ++ [(sV k, [])]).set (nxR N).length (sV k, [] ++ [sN v]) = nxR (appR k v N) := by
  refine ⟨?_, ?_⟩
  · rw [List.getElem?_append_right (Nat.le_refl _), Nat.sub_self]; rfl
  · unfold appR
    rw [h]
    show _ = nxR (aput k ([] ++ [v]) N)
    rw [aput_new h, List.set_append_right _ _ (Nat.le_refl _), Nat.sub_self]
    unfold nxR rowE
    rw [List.map_append]
    rfl
theorem nxR_some {N : List (ByteArray × List ByteArray)} {k : ByteArray} {r : List ByteArray} (h : aget k N = some r) : mat (sV k) (keysR (nxR N)) 0 = some (aidx k N, AV.any) := by rw [nxR_mat, h, Nat.zero_add]; rfl
theorem nxR_none {N : List (ByteArray × List ByteArray)} {k : ByteArray} (h : aget k N = none) : mat (sV k) (keysR (nxR N)) 0 = none := by rw [nxR_mat, h]; rfl
theorem nbrs_len (τ : List Pr) (a : ByteArray) : (nbrs τ a).length ≤ 2 * τ.length := by
  induction τ with
  | nil => simp [nbrs]
  | cons p τ ih =>
    have e : nbrs (p :: τ) a = ((if p.1 = a then [p.2] else []) ++ (if p.2 = a then [p.1] else [])) ++ nbrs τ a := rfl
    rw [e, List.length_append, List.length_append, List.length_cons]
    have h1 : (if p.1 = a then [p.2] else []).length ≤ 1 := by split <;> simp
    have h2 : (if p.2 = a then [p.1] else []).length ≤ 1 := by split <;> simp
    omega
theorem row_len {τ : List Pr} {a : ByteArray} {r : List ByteArray} (h : aget a (nbM τ) = some r) : r.length ≤ 2 * τ.length := by
  have h1 := (nbM_spec τ).2.2 a
  rw [h] at h1
  have : r = nbrs τ a := h1
  rw [this]
  exact nbrs_len τ a
theorem row_len2 {τ : List Pr} {f t : ByteArray} {r : List ByteArray} (h : aget t (appR f t (nbM τ)) = some r) : r.length ≤ 2 * τ.length + 1 := by
  have h1 := appR_get f t (nbM τ) t
  rw [h, (nbM_spec τ).2.2] at h1
  have h2 : r = nbrs τ t ++ (if f = t then [t] else []) := h1
  have := nbrs_len τ t
  rw [h2, List.length_append]
  have h3 : (if f = t then [t] else []).length ≤ 1 := by split <;> simp
  omega
theorem chM_len (l : List RP) (day : Int) : (chM l day).length ≤ l.length := by
  have : ∀ n, (chM (l.take n) day).length ≤ n := by
    intro n
    induction n with
    | zero => simp [chM]
    | succ n ih =>
      by_cases h : n < l.length
      · obtain ⟨x, hx, _⟩ := drop_at h
        rw [take_at hx, chM_snoc]
        unfold chS
        have := aput_len (x.1.1, x.1.2.1) (x.1.2.2, x.2.1, x.2.2) (chM (l.take n) day)
        have hif : ∀ (c : Prop) [Decidable c] (A B : List (Pr × Dt)), A.length ≤ n + 1 → B.length ≤ n + 1 → (if c then A else B).length ≤ n + 1 := fun c _ A B h1 h2 => by
          by_cases hc : c
          · rw [if_pos hc]; exact h1
          · rw [if_neg hc]; exact h2
        exact hif _ _ _ (by omega) (by omega)
      · rw [List.take_of_length_le (by omega)] at ih ⊢
        omega
  have := this l.length
  rwa [List.take_length] at this
theorem perm_midR {α : Type} {acc a b l : List α} {p : α} (h : (acc ++ (a ++ p :: b)).Perm l) : ((acc ++ [p]) ++ (a ++ b)).Perm l := by
  refine List.Perm.trans ?_ h
  rw [List.append_assoc]
  exact List.Perm.append_left acc (by simpa using (List.perm_middle (a := p) (l₁ := a) (l₂ := b)).symm)
/-- the rows, of which some are still to be sorted -/
def rowU (td : List ByteArray) (p : ByteArray × List ByteArray) : List ByteArray := if (td.any fun q => decide (q = p.1)) = true then p.2 else sortS p.2
theorem rowU_all (N : List (ByteArray × List ByteArray)) : (N.map fun p => (p.1, rowU (akeys N) p)) = N := by
  have : ∀ p ∈ N, (p.1, rowU (akeys N) p) = p := fun p hp => by
    unfold rowU
    have : p.1 ∈ akeys N := List.mem_map.2 ⟨p, hp, rfl⟩
    rw [if_pos (List.any_eq_true.2 ⟨p.1, this, by simp⟩)]
  rw [List.map_congr_left this, List.map_id']
theorem nxR_keysV (N : List (ByteArray × List ByteArray)) : (nxR N).map (·.1) = (akeys N).map sV := by
  unfold nxR akeys
  rw [List.map_map, List.map_map]
  rfl
theorem _root_.List.Nodup.map_sV {l : List ByteArray} (h : l.Nodup) : (l.map sV).Nodup := by
  rw [List.nodup_iff_pairwise_ne] at h ⊢
  rw [List.pairwise_map]
  exact h.imp (fun {a b} hne e => hne (sV_inj _ _ e))
theorem mapR_split {l : List ByteArray} {pre post : List Value} {k : Value} (h : l.map sV = pre ++ k :: post) : ∃ a q b, l = a ++ q :: b ∧ pre = a.map sV ∧ k = sV q ∧ post = b.map sV := by
  obtain ⟨a, r, rfl, h1, h2⟩ := List.map_eq_append_iff.1 h
  obtain ⟨q, b, rfl, h3, h4⟩ := List.map_eq_cons_iff.1 h2
  exact ⟨a, q, b, rfl, h1.symm, h3.symm, h4.symm⟩
theorem rowU_in {td : List ByteArray} {p : ByteArray × List ByteArray} (h : p.1 ∈ td) : rowU td p = p.2 := by
  unfold rowU
  rw [if_pos (List.any_eq_true.2 ⟨p.1, h, by simp⟩)]
theorem rowU_out {td : List ByteArray} {p : ByteArray × List ByteArray} (h : p.1 ∉ td) : rowU td p = sortS p.2 := by
  unfold rowU
  rw [if_neg (fun hc => by
    obtain ⟨q, h1, h2⟩ := List.any_eq_true.1 hc
    rw [decide_eq_true_eq] at h2
    exact h (h2 ▸ h1))]
theorem rowU_step {N : List (ByteArray × List ByteArray)} (hN : (akeys N).Nodup) {a b : List ByteArray} {q : ByteArray} {r : List ByteArray} {n : Nat} (hn : N[n]? = some (q, r)) (hd : (a ++ q :: b).Nodup) :
    (nxR (N.map fun p => (p.1, rowU (a ++ q :: b) p)))[n]? = some (sV q, rowE r) ∧ (nxR (N.map fun p => (p.1, rowU (a ++ q :: b) p))).set n (sV q, rowE (sortS r)) = nxR (N.map fun p => (p.1, rowU (a ++ b) p)) := by
  have hq : q ∉ a ++ b := by
    have : (q :: (a ++ b)).Nodup := (List.perm_middle.nodup_iff).1 hd
    exact (List.nodup_cons.1 this).1
  have hnl := (List.getElem?_eq_some_iff.1 hn).1
  have at1 : ∀ (F : ByteArray × List ByteArray → List ByteArray) (j : Nat), (nxR (N.map fun p => (p.1, F p)))[j]? = N[j]?.map fun p => (sV p.1, rowE (F p)) := fun F j => by
    unfold nxR
    rw [List.getElem?_map, List.getElem?_map, Option.map_map]
    rfl
  have h1 : (nxR (N.map fun p => (p.1, rowU (a ++ q :: b) p)))[n]? = some (sV q, rowE r) := by
    rw [at1, hn]
    show some (sV q, rowE (rowU (a ++ q :: b) (q, r))) = _
    rw [rowU_in (by simp)]
  refine ⟨h1, List.ext_getElem? (fun j => ?_)⟩
  by_cases e : n = j
  · subst e
    rw [List.getElem?_set_self (List.getElem?_eq_some_iff.1 h1).1, at1, hn]
    show _ = some (sV q, rowE (rowU (a ++ b) (q, r)))
    rw [rowU_out hq]
  · rw [List.getElem?_set_ne e, at1, at1]
    cases hj : N[j]? with
    | none => rfl
    | some p =>
      have hne : p.1 ≠ q := by
        intro e0
        obtain ⟨x1, x2⟩ := List.getElem?_eq_some_iff.1 hj
        obtain ⟨y1, y2⟩ := List.getElem?_eq_some_iff.1 hn
        unfold akeys at hN
        rw [List.nodup_iff_pairwise_ne, List.pairwise_map, List.pairwise_iff_getElem] at hN
        rcases Nat.lt_or_gt_of_ne e with g | g
        · have := hN n j y1 x1 g
          rw [x2, y2] at this
          exact this e0.symm
        · have := hN j n x1 y1 g
          rw [x2, y2] at this
          exact this e0
      show some (sV p.1, rowE (rowU (a ++ q :: b) p)) = some (sV p.1, rowE (rowU (a ++ b) p))
      congr 3
      by_cases hm : p.1 ∈ a ++ b
      · rw [rowU_in hm, rowU_in (by
          rcases List.mem_append.1 hm with g | g
          · exact List.mem_append_left _ g
          · exact List.mem_append_right _ (List.mem_cons_of_mem _ g))]
      · rw [rowU_out hm, rowU_out (by
          intro hc
          rcases List.mem_append.1 hc with g | g
          · exact hm (List.mem_append_left _ g)
          · rcases List.mem_cons.1 g with g | g
            · exact hne g
            · exact hm (List.mem_append_right _ g))]
def prE (l : List RP) (day : Int) : List (Value × AV) := emap k2V dtV (chM l day)
def nbE (l : List RP) (day : Int) : List (Value × AV) := (nbM (akeys (chM l day))).map fun p => (sV p.1, AV.d (.sl 1 (rowE (sortS p.2))))
set_option maxRecDepth 10000 in
set_option maxHeartbeats 16000000 in
theorem chart_ac (l : List RP) (day : Int) (hn : (akeys l).Nodup) (hl : l.length ≤ 4096) : AC Try.prog 30 [.ptr 1000 0, .d (.sc (.int .i64 day))] (hR l) [1000, 1001]
    (fun r h' => r = .agg [.mp 14, .mp 15] ∧ SubH (hR l ++ [(14, some (.mapP 119 121 (prE l day))), (15, some (.mapP 9 35 (nbE l day)))]) h') := by
  have hkA := emap_nodup (cv := rtV) r3V_inj hn
  unfold hR
  refine AC_enterC Try.tab Try.func30 rfl Try.ntmps30 (a0 := 4) (t0 := 93) rfl rfl (by simp) (fun w X G => ?_)
  repeat' (first | ((with_reducible refine gA ?_); (first | refine AW_seq ?_ | refine AW_region ?_ | refine AW_block ?_)) | ((with_reducible refine gS ?_); refine Es_s (T := Try.tab) rfl rfl rfl rfl ?_) | (((with_reducible refine gS ?_); apply Es_xs); rfl; rfl; refine lstep_makeMapR (T := Try.tab) rfl rfl rfl rfl rfl; rfl) | (((with_reducible refine gS ?_); apply Es_xg); rfl; rfl; refine LStep_range (T := Try.tab) rfl rfl rfl rfl rfl rfl rfl; rfl) | (((with_reducible refine gS ?_); apply Es_q); rfl; rfl; refine LStep_buildN (T := Try.tab) rfl rfl rfl rfl rfl rfl rfl) | (refine Es_skip rfl ?_ rfl ?_; (first | rfl | (refine w_tf ?_; assumption) | (refine w_ft ?_; assumption))) | (((with_reducible refine gS ?_); apply Es_xs); rfl; rfl; refine LStep_allocN (T := Try.tab) rfl rfl rfl rfl rfl rfl; rfl) | (((with_reducible refine gS ?_); apply Es_xn); rfl; rfl; (refine LStep_storeN (T := Try.tab) rfl rfl rfl rfl rfl rfl rfl ?_ rfl; (refine Nat.le_of_ble_eq_true ?_; rfl)); rfl) | (with_reducible refine Es_nil ?_) | (with_reducible refine then_n ?_))
  refine AW_forE (S := List RP × List RP × Option Value) (fun t => (t.2.1 ++ t.1).Perm l) (fun _ => []) (fun t => [(1001, some (.map 66 30 (emap r3V rtV l) (some (21, (emap r3V rtV t.1).map (·.1), t.2.2)))), (14, some (.map 119 121 (emap k2V dtV (chM t.2.1 day)) none))]) (fun t => t.1.length) (l, [], none) (List.Perm.refl _) (by (repeat' (first | exact trivial | exact rfl | (refine ⟨Or.inl rfl, ?_⟩) | (refine ⟨Or.inr rfl, ?_⟩) | (refine ⟨Or.inr trivial, ?_⟩) | (refine ⟨rfl, ?_⟩) | (refine ⟨?_, ?_⟩)))) (by (repeat' (first | exact trivial | exact rfl | (refine ⟨Or.inl rfl, ?_⟩) | (refine ⟨Or.inr rfl, ?_⟩) | (refine ⟨Or.inr trivial, ?_⟩) | (refine ⟨rfl, ?_⟩) | (refine ⟨?_, ?_⟩)))) ?_
  intro ⟨mt, acc, cur⟩ hp
  dsimp only at hp ⊢
  have hn3 : ((emap r3V rtV mt).map (·.1)).Nodup := by
    have h1 : (emap r3V rtV (acc ++ mt)).Perm (emap r3V rtV l) := hp.map _
    have h2 := (h1.map (·.1)).nodup_iff.2 hkA
    rw [etodo_join, List.nodup_append] at h2
    exact h2.2.1
  refine AW_seq ?_
  refine AW_region ?_
  refine Es_next 1001 rfl rfl rfl rfl rfl rfl hkA hn3 (fun h0 => ?_) (fun pre k post h0 => ?_)
  rotate_left
  · obtain ⟨a, p, b, rfl, rfl, rfl, rfl⟩ := etodo_split h0
    obtain ⟨⟨f, t, d⟩, n, m⟩ := p
    have hpm : ((f, t, d), n, m) ∈ l := hp.mem_iff.1 (by simp)
    have hmem : (r3V (f, t, d), AV.agg [.d (.sc (.int .i64 n)), .d (.sc (.int .i64 m))]) ∈ emap r3V rtV l := List.mem_map.2 ⟨_, hpm, rfl⟩
    have hst := chM_snoc acc ((f, t, d), n, m) day
    unfold chS at hst
    dsimp only at hst
    have hpm2 := perm_midR hp
    have hML := p2_keys (cv := dtV) (chM acc day)
    cases hg : aget (f, t) (chM acc day) with
    | none =>
      rw [hg] at hst
      have hf := mget_no (cv := dtV) k2V_keq hg
      have hput := mput_emap (cv := dtV) k2V_keq (f, t) (d, n, m) (chM acc day)
      by_cases hd : d ≤ day
      · have g1 : leb d day = true := leb_t.2 hd
        rw [if_pos (by simp [hd])] at hst
        repeat' (first | ((with_reducible refine gA ?_); (first | refine AW_seq ?_ | refine AW_region ?_ | refine AW_condT rfl ?_ | refine AW_block ?_ | refine AW_skip ?_)) | ((with_reducible refine gS ?_); refine Es_s (T := Try.tab) rfl rfl rfl rfl ?_) | (((with_reducible refine gS ?_); apply Es_q); rfl; (first | rfl | (refine w_tt ?_; assumption)); (first | refine LStep_entry (kav := .agg [.d (.sc (.string f)), .d (.sc (.string t)), .d (.sc (.int .i64 d))]) 1001 hmem rfl rfl rfl rfl hkA (r3_rep (f, t, d)) | refine LStep_lookupNoZ (T := Try.tab) rfl rfl rfl keyP2 rfl rfl rfl rfl rfl rfl hML hf)) | (((with_reducible refine gS ?_); apply Es_xn); rfl; rfl; refine LStep_mapUpdate (T := Try.tab) rfl rfl rfl keyP2 rfl rfl rfl rfl rfl hML rfl; rfl) | (((with_reducible refine gS ?_); apply Es_q); rfl; (first | rfl | (refine w_tt ?_; assumption)); (first | refine LStep_simp (T := Try.tab) rfl rfl | (refine LStep_pickT rfl rfl ?_ rfl rfl; assumption) | refine LStep_buildN (T := Try.tab) rfl rfl rfl rfl rfl rfl rfl)) | (refine Es_skip rfl ?_ rfl ?_; (first | rfl | (refine w_tf ?_; assumption) | (refine w_ft ?_; assumption))) | (((with_reducible refine gS ?_); apply Es_xs); rfl; rfl; refine LStep_allocN (T := Try.tab) rfl rfl rfl rfl rfl rfl; rfl) | (((with_reducible refine gS ?_); apply Es_xn); rfl; rfl; (refine LStep_storeN (T := Try.tab) rfl rfl rfl rfl rfl rfl rfl ?_ rfl; (refine Nat.le_of_ble_eq_true ?_; rfl)); rfl) | (with_reducible refine Es_nil ?_) | (with_reducible refine then_n ?_) | (with_reducible refine block_n ?_))
        all_goals first
          | (refine ⟨(a ++ b, acc ++ [((f, t, d), n, m)], some (r3V (f, t, d))), hpm2, by simp, by (repeat' (first | exact trivial | exact rfl | (refine ⟨Or.inl rfl, ?_⟩) | (refine ⟨Or.inr rfl, ?_⟩) | (refine ⟨Or.inr trivial, ?_⟩) | (refine ⟨rfl, ?_⟩) | (refine ⟨?_, ?_⟩))), by (repeat' (first | exact trivial | exact rfl | (refine ⟨Or.inl rfl, ?_⟩) | (refine ⟨Or.inr rfl, ?_⟩) | (refine ⟨Or.inr trivial, ?_⟩) | (refine ⟨rfl, ?_⟩) | (refine ⟨?_, ?_⟩))), ?_, by (repeat' (first | exact trivial | exact rfl | (refine ⟨Or.inl rfl, ?_⟩) | (refine ⟨Or.inr rfl, ?_⟩) | (refine ⟨Or.inr trivial, ?_⟩) | (refine ⟨rfl, ?_⟩) | (refine ⟨?_, ?_⟩)))⟩; dsimp only; rw [hst, ← hput, etodo_join]; (repeat' (first | exact trivial | exact rfl | (refine ⟨Or.inl rfl, ?_⟩) | (refine ⟨Or.inr rfl, ?_⟩) | (refine ⟨Or.inr trivial, ?_⟩) | (refine ⟨rfl, ?_⟩) | (refine ⟨?_, ?_⟩))); done)
          | trace_state
      · have g1 : leb d day = false := leb_f.2 (by omega)
        rw [if_neg (by simp [hd])] at hst
        repeat' (first | ((with_reducible refine gA ?_); (first | refine AW_seq ?_ | refine AW_region ?_ | refine AW_condT rfl ?_ | refine AW_condF rfl ?_ | refine AW_block ?_ | refine AW_skip ?_)) | ((with_reducible refine gS ?_); refine Es_s (T := Try.tab) rfl rfl rfl rfl ?_) | (((with_reducible refine gS ?_); apply Es_q); rfl; rfl; (first | refine LStep_entry (kav := .agg [.d (.sc (.string f)), .d (.sc (.string t)), .d (.sc (.int .i64 d))]) 1001 hmem rfl rfl rfl rfl hkA (r3_rep (f, t, d)) | refine LStep_lookupNoZ (T := Try.tab) rfl rfl rfl keyP2 rfl rfl rfl rfl rfl rfl hML hf)) | (((with_reducible refine gS ?_); apply Es_q); rfl; rfl; (first | (refine LStep_pickF rfl rfl ?_ rfl rfl; assumption) | refine LStep_buildN (T := Try.tab) rfl rfl rfl rfl rfl rfl rfl)) | (refine Es_skip rfl ?_ rfl ?_; (first | rfl | (refine w_tf ?_; assumption) | (refine w_ft ?_; assumption))) | (((with_reducible refine gS ?_); apply Es_xs); rfl; rfl; refine LStep_allocN (T := Try.tab) rfl rfl rfl rfl rfl rfl; rfl) | (((with_reducible refine gS ?_); apply Es_xn); rfl; rfl; (refine LStep_storeN (T := Try.tab) rfl rfl rfl rfl rfl rfl rfl ?_ rfl; (refine Nat.le_of_ble_eq_true ?_; rfl)); rfl) | (with_reducible refine Es_nil ?_) | (with_reducible refine then_n ?_) | (with_reducible refine block_n ?_))
        all_goals first
          | (refine ⟨(a ++ b, acc ++ [((f, t, d), n, m)], some (r3V (f, t, d))), hpm2, by simp, by (repeat' (first | exact trivial | exact rfl | (refine ⟨Or.inl rfl, ?_⟩) | (refine ⟨Or.inr rfl, ?_⟩) | (refine ⟨Or.inr trivial, ?_⟩) | (refine ⟨rfl, ?_⟩) | (refine ⟨?_, ?_⟩))), by (repeat' (first | exact trivial | exact rfl | (refine ⟨Or.inl rfl, ?_⟩) | (refine ⟨Or.inr rfl, ?_⟩) | (refine ⟨Or.inr trivial, ?_⟩) | (refine ⟨rfl, ?_⟩) | (refine ⟨?_, ?_⟩))), ?_, by (repeat' (first | exact trivial | exact rfl | (refine ⟨Or.inl rfl, ?_⟩) | (refine ⟨Or.inr rfl, ?_⟩) | (refine ⟨Or.inr trivial, ?_⟩) | (refine ⟨rfl, ?_⟩) | (refine ⟨?_, ?_⟩)))⟩; dsimp only; rw [hst, etodo_join]; (repeat' (first | exact trivial | exact rfl | (refine ⟨Or.inl rfl, ?_⟩) | (refine ⟨Or.inr rfl, ?_⟩) | (refine ⟨Or.inr trivial, ?_⟩) | (refine ⟨rfl, ?_⟩) | (refine ⟨?_, ?_⟩))); done)
          | trace_state
    | some o =>
      obtain ⟨d0, n0, m0⟩ := o
      rw [hg] at hst
      have hf := mget_some (cv := dtV) k2V_keq hg
      have hput := mput_emap (cv := dtV) k2V_keq (f, t) (d, n, m) (chM acc day)
      by_cases hd : d ≤ day
      · have g1 : leb d day = true := leb_t.2 hd
        by_cases hlt : d0 < d
        · have g2 : ltb d0 d = true := ltb_t.2 hlt
          rw [if_pos (by simp [hd, hlt])] at hst
          repeat' (first | ((with_reducible refine gA ?_); (first | refine AW_seq ?_ | refine AW_region ?_ | refine AW_condT rfl ?_ | (refine AW_condY rfl ?_ ?_; assumption) | refine AW_block ?_ | refine AW_skip ?_)) | ((with_reducible refine gS ?_); refine Es_s (T := Try.tab) rfl rfl rfl rfl ?_) | (((with_reducible refine gS ?_); apply Es_q); rfl; (first | rfl | (refine w_tt ?_; assumption)); (first | refine LStep_entry (kav := .agg [.d (.sc (.string f)), .d (.sc (.string t)), .d (.sc (.int .i64 d))]) 1001 hmem rfl rfl rfl rfl hkA (r3_rep (f, t, d)) | refine LStep_lookupOk (T := Try.tab) rfl rfl rfl keyP2 rfl rfl rfl rfl hML hf)) | (((with_reducible refine gS ?_); apply Es_xn); rfl; rfl; refine LStep_mapUpdate (T := Try.tab) rfl rfl rfl keyP2 rfl rfl rfl rfl rfl hML rfl; rfl) | (((with_reducible refine gS ?_); apply Es_q); rfl; (first | rfl | (refine w_tt ?_; assumption)); (first | refine LStep_simp (T := Try.tab) rfl rfl | (refine LStep_pickT rfl rfl ?_ rfl rfl; assumption) | refine LStep_buildN (T := Try.tab) rfl rfl rfl rfl rfl rfl rfl)) | (refine Es_skip rfl ?_ rfl ?_; (first | rfl | (refine w_tf ?_; assumption) | (refine w_ft ?_; assumption))) | (((with_reducible refine gS ?_); apply Es_xs); rfl; rfl; refine LStep_allocN (T := Try.tab) rfl rfl rfl rfl rfl rfl; rfl) | (((with_reducible refine gS ?_); apply Es_xn); rfl; rfl; (refine LStep_storeN (T := Try.tab) rfl rfl rfl rfl rfl rfl rfl ?_ rfl; (refine Nat.le_of_ble_eq_true ?_; rfl)); rfl) | (with_reducible refine Es_nil ?_) | (with_reducible refine then_n ?_) | (with_reducible refine block_n ?_))
          all_goals first
            | (refine ⟨(a ++ b, acc ++ [((f, t, d), n, m)], some (r3V (f, t, d))), hpm2, by simp, by (repeat' (first | exact trivial | exact rfl | (refine ⟨Or.inl rfl, ?_⟩) | (refine ⟨Or.inr rfl, ?_⟩) | (refine ⟨Or.inr trivial, ?_⟩) | (refine ⟨rfl, ?_⟩) | (refine ⟨?_, ?_⟩))), by (repeat' (first | exact trivial | exact rfl | (refine ⟨Or.inl rfl, ?_⟩) | (refine ⟨Or.inr rfl, ?_⟩) | (refine ⟨Or.inr trivial, ?_⟩) | (refine ⟨rfl, ?_⟩) | (refine ⟨?_, ?_⟩))), ?_, by (repeat' (first | exact trivial | exact rfl | (refine ⟨Or.inl rfl, ?_⟩) | (refine ⟨Or.inr rfl, ?_⟩) | (refine ⟨Or.inr trivial, ?_⟩) | (refine ⟨rfl, ?_⟩) | (refine ⟨?_, ?_⟩)))⟩; dsimp only; rw [hst, ← hput, etodo_join]; (repeat' (first | exact trivial | exact rfl | (refine ⟨Or.inl rfl, ?_⟩) | (refine ⟨Or.inr rfl, ?_⟩) | (refine ⟨Or.inr trivial, ?_⟩) | (refine ⟨rfl, ?_⟩) | (refine ⟨?_, ?_⟩))); done)
            | trace_state
        · have g2 : ltb d0 d = false := ltb_f.2 (by omega)
          rw [if_neg (by simp [hlt])] at hst
          repeat' (first | ((with_reducible refine gA ?_); (first | refine AW_seq ?_ | refine AW_region ?_ | refine AW_condT rfl ?_ | (refine AW_condN rfl ?_ ?_; assumption) | refine AW_block ?_ | refine AW_skip ?_)) | ((with_reducible refine gS ?_); refine Es_s (T := Try.tab) rfl rfl rfl rfl ?_) | (((with_reducible refine gS ?_); apply Es_q); rfl; (first | rfl | (refine w_tt ?_; assumption)); (first | refine LStep_entry (kav := .agg [.d (.sc (.string f)), .d (.sc (.string t)), .d (.sc (.int .i64 d))]) 1001 hmem rfl rfl rfl rfl hkA (r3_rep (f, t, d)) | refine LStep_lookupOk (T := Try.tab) rfl rfl rfl keyP2 rfl rfl rfl rfl hML hf)) | (((with_reducible refine gS ?_); apply Es_q); rfl; (first | rfl | (refine w_tt ?_; assumption)); (first | refine LStep_simp (T := Try.tab) rfl rfl | (refine LStep_pickT rfl rfl ?_ rfl rfl; assumption) | refine LStep_buildN (T := Try.tab) rfl rfl rfl rfl rfl rfl rfl)) | (refine Es_skip rfl ?_ rfl ?_; (first | rfl | (refine w_tf ?_; assumption) | (refine w_ft ?_; assumption))) | (((with_reducible refine gS ?_); apply Es_xs); rfl; rfl; refine LStep_allocN (T := Try.tab) rfl rfl rfl rfl rfl rfl; rfl) | (((with_reducible refine gS ?_); apply Es_xn); rfl; rfl; (refine LStep_storeN (T := Try.tab) rfl rfl rfl rfl rfl rfl rfl ?_ rfl; (refine Nat.le_of_ble_eq_true ?_; rfl)); rfl) | (with_reducible refine Es_nil ?_) | (with_reducible refine then_n ?_) | (with_reducible refine block_n ?_))
          all_goals first
            | (refine ⟨(a ++ b, acc ++ [((f, t, d), n, m)], some (r3V (f, t, d))), hpm2, by simp, by (repeat' (first | exact trivial | exact rfl | (refine ⟨Or.inl rfl, ?_⟩) | (refine ⟨Or.inr rfl, ?_⟩) | (refine ⟨Or.inr trivial, ?_⟩) | (refine ⟨rfl, ?_⟩) | (refine ⟨?_, ?_⟩))), by (repeat' (first | exact trivial | exact rfl | (refine ⟨Or.inl rfl, ?_⟩) | (refine ⟨Or.inr rfl, ?_⟩) | (refine ⟨Or.inr trivial, ?_⟩) | (refine ⟨rfl, ?_⟩) | (refine ⟨?_, ?_⟩))), ?_, by (repeat' (first | exact trivial | exact rfl | (refine ⟨Or.inl rfl, ?_⟩) | (refine ⟨Or.inr rfl, ?_⟩) | (refine ⟨Or.inr trivial, ?_⟩) | (refine ⟨rfl, ?_⟩) | (refine ⟨?_, ?_⟩)))⟩; dsimp only; rw [hst, etodo_join]; (repeat' (first | exact trivial | exact rfl | (refine ⟨Or.inl rfl, ?_⟩) | (refine ⟨Or.inr rfl, ?_⟩) | (refine ⟨Or.inr trivial, ?_⟩) | (refine ⟨rfl, ?_⟩) | (refine ⟨?_, ?_⟩))); done)
            | trace_state
      · have g1 : leb d day = false := leb_f.2 (by omega)
        rw [if_neg (by simp [hd])] at hst
        repeat' (first | ((with_reducible refine gA ?_); (first | refine AW_seq ?_ | refine AW_region ?_ | refine AW_condT rfl ?_ | refine AW_condF rfl ?_ | refine AW_block ?_ | refine AW_skip ?_)) | ((with_reducible refine gS ?_); refine Es_s (T := Try.tab) rfl rfl rfl rfl ?_) | (((with_reducible refine gS ?_); apply Es_q); rfl; rfl; (first | refine LStep_entry (kav := .agg [.d (.sc (.string f)), .d (.sc (.string t)), .d (.sc (.int .i64 d))]) 1001 hmem rfl rfl rfl rfl hkA (r3_rep (f, t, d)) | refine LStep_lookupOk (T := Try.tab) rfl rfl rfl keyP2 rfl rfl rfl rfl hML hf)) | (((with_reducible refine gS ?_); apply Es_q); rfl; rfl; (first | (refine LStep_pickF rfl rfl ?_ rfl rfl; assumption) | refine LStep_buildN (T := Try.tab) rfl rfl rfl rfl rfl rfl rfl)) | (refine Es_skip rfl ?_ rfl ?_; (first | rfl | (refine w_tf ?_; assumption) | (refine w_ft ?_; assumption))) | (((with_reducible refine gS ?_); apply Es_xs); rfl; rfl; refine LStep_allocN (T := Try.tab) rfl rfl rfl rfl rfl rfl; rfl) | (((with_reducible refine gS ?_); apply Es_xn); rfl; rfl; (refine LStep_storeN (T := Try.tab) rfl rfl rfl rfl rfl rfl rfl ?_ rfl; (refine Nat.le_of_ble_eq_true ?_; rfl)); rfl) | (with_reducible refine Es_nil ?_) | (with_reducible refine then_n ?_) | (with_reducible refine block_n ?_))
        all_goals first
          | (refine ⟨(a ++ b, acc ++ [((f, t, d), n, m)], some (r3V (f, t, d))), hpm2, by simp, by (repeat' (first | exact trivial | exact rfl | (refine ⟨Or.inl rfl, ?_⟩) | (refine ⟨Or.inr rfl, ?_⟩) | (refine ⟨Or.inr trivial, ?_⟩) | (refine ⟨rfl, ?_⟩) | (refine ⟨?_, ?_⟩))), by (repeat' (first | exact trivial | exact rfl | (refine ⟨Or.inl rfl, ?_⟩) | (refine ⟨Or.inr rfl, ?_⟩) | (refine ⟨Or.inr trivial, ?_⟩) | (refine ⟨rfl, ?_⟩) | (refine ⟨?_, ?_⟩))), ?_, by (repeat' (first | exact trivial | exact rfl | (refine ⟨Or.inl rfl, ?_⟩) | (refine ⟨Or.inr rfl, ?_⟩) | (refine ⟨Or.inr trivial, ?_⟩) | (refine ⟨rfl, ?_⟩) | (refine ⟨?_, ?_⟩)))⟩; dsimp only; rw [hst, etodo_join]; (repeat' (first | exact trivial | exact rfl | (refine ⟨Or.inl rfl, ?_⟩) | (refine ⟨Or.inr rfl, ?_⟩) | (refine ⟨Or.inr trivial, ?_⟩) | (refine ⟨rfl, ?_⟩) | (refine ⟨?_, ?_⟩))); done)
          | trace_state
  have hm0 := etodo_nil h0
  subst hm0
  rw [List.append_nil] at hp
  have hpl : (akeys (chM acc day)).Perm (akeys (chM l day)) := by
    have h1 := chM_get day acc
    have h2 := chM_get day l
    refine (List.perm_ext_iff_of_nodup h1.1 h2.1).2 (fun q => ?_)
    have e : aget q (chM acc day) = aget q (chM l day) := by rw [h1.2, h2.2, lat_perm hp hn]
    constructor
    · intro hq
      apply Classical.byContradiction
      intro hc
      rw [aget_none.2 hc] at e
      exact absurd hq (aget_none.1 e)
    · intro hq
      apply Classical.byContradiction
      intro hc
      rw [aget_none.2 hc] at e
      exact absurd hq (aget_none.1 e.symm)
  have hpM : (chM acc day).Perm (chM l day) := by
    have h1 := chM_get day acc
    have h2 := chM_get day l
    have nd : ∀ {L : List (Pr × Dt)}, (akeys L).Nodup → L.Nodup := fun {L} h => by
      unfold akeys at h
      rw [List.nodup_iff_pairwise_ne, List.pairwise_map] at h
      rw [List.nodup_iff_pairwise_ne]
      exact h.imp (fun {a b} hne e => hne (by rw [e]))
    refine (List.perm_ext_iff_of_nodup (nd h1.1) (nd h2.1)).2 (fun q => ?_)
    have e : aget q.1 (chM acc day) = aget q.1 (chM l day) := by rw [h1.2, h2.2, lat_perm hp hn]
    constructor
    · intro hq
      exact aget_mem (by rw [← e]; exact aget_of_mem h1.1 hq)
    · intro hq
      exact aget_mem (by rw [e]; exact aget_of_mem h2.1 hq)
  have hM1 := (chM_get day acc).1
  have hMl : (chM acc day).length ≤ 4096 := by
    have := chM_len l day
    rw [hpM.length_eq]; omega
  clear hpl
  repeat' (first | ((with_reducible refine gA ?_); refine AW_noIt 1001 rfl ?_) | ((with_reducible refine gA ?_); (first | refine AW_seq ?_ | refine AW_region ?_ | refine AW_condF rfl ?_ | refine AW_block ?_ | refine AW_exit ?_)) | ((with_reducible refine gS ?_); refine Es_s (T := Try.tab) rfl rfl rfl rfl ?_) | (((with_reducible refine gS ?_); apply Es_xg); rfl; rfl; refine LStep_range (T := Try.tab) rfl rfl rfl rfl rfl rfl rfl; rfl) | (with_reducible refine Es_nil ?_) | (with_reducible refine then_n ?_) | (with_reducible refine then_e ?_) | ((with_reducible refine block_e ?_ ?_); rfl))
  generalize chM acc day = M at *
  have hkM := emap_nodup (cv := dtV) k2V_inj hM1
  refine AW_openR 15 9 1 rfl ?_
  refine AW_forE (S := List (Pr × Dt) × List (Pr × Dt) × Option Value) (fun t => (t.2.1 ++ t.1).Perm M) (fun _ => []) (fun t => [(14, some (.map 119 121 (emap k2V dtV M) (some (63, (emap k2V dtV t.1).map (·.1), t.2.2)))), (15, some (.nx 9 35 9 1 (nxR (nbM (akeys t.2.1))) none none))]) (fun t => t.1.length) (M, [], none) (List.Perm.refl _) (by (repeat' (first | exact trivial | exact rfl | (refine ⟨Or.inl rfl, ?_⟩) | (refine ⟨Or.inr rfl, ?_⟩) | (refine ⟨Or.inr trivial, ?_⟩) | (refine ⟨rfl, ?_⟩) | (refine ⟨?_, ?_⟩)))) (by (repeat' (first | exact trivial | exact rfl | (refine ⟨Or.inl rfl, ?_⟩) | (refine ⟨Or.inr rfl, ?_⟩) | (refine ⟨Or.inr trivial, ?_⟩) | (refine ⟨rfl, ?_⟩) | (refine ⟨?_, ?_⟩)))) ?_
  clear hp hn3 h0
  intro ⟨mt, acc2, cur⟩ hp
  dsimp only at hp ⊢
  have hn3 : ((emap k2V dtV mt).map (·.1)).Nodup := by
    have h1 : (emap k2V dtV (acc2 ++ mt)).Perm (emap k2V dtV M) := hp.map _
    have h2 := (h1.map (·.1)).nodup_iff.2 hkM
    rw [etodo_join, List.nodup_append] at h2
    exact h2.2.1
  have hal : (akeys acc2).length ≤ 4096 := by
    have := hp.length_eq
    rw [List.length_append] at this
    have e : (akeys acc2).length = acc2.length := List.length_map _
    omega
  refine AW_seq ?_
  refine AW_region ?_
  refine Es_next 14 rfl rfl rfl rfl rfl rfl hkM hn3 (fun h0 => ?_) (fun pre k post h0 => ?_)
  rotate_left
  · obtain ⟨a, p, b, rfl, rfl, rfl, rfl⟩ := etodo_split h0
    obtain ⟨⟨f, t⟩, d, n, m⟩ := p
    have hpm : ((f, t), d, n, m) ∈ M := hp.mem_iff.1 (by simp)
    have hmem : (k2V (f, t), AV.agg [.d (.sc (.int .i64 d)), .d (.sc (.int .i64 n)), .d (.sc (.int .i64 m))]) ∈ emap k2V dtV M := List.mem_map.2 ⟨_, hpm, rfl⟩
    have hst : nbM (akeys (acc2 ++ [((f, t), d, n, m)])) = appR t f (appR f t (nbM (akeys acc2))) := by
      unfold akeys
      rw [List.map_append]
      exact nbM_snoc _ _
    have hpm2 := perm_midR hp
    have hr1 := fun r h => row_len (τ := akeys acc2) (a := f) (r := r) h
    have hr2 := fun r h => row_len2 (τ := akeys acc2) (f := f) (t := t) (r := r) h
    generalize nbM (akeys acc2) = N0 at *
    generalize (akeys acc2).length = al at *
    generalize hN1 : appR f t N0 = N1 at *
    cases hg : aget f N0 with
    | some r0 =>
      have hl1 := hr1 r0 hg
      have hg1 : aget f N0 = some r0 := hg
      cases hg2 : aget t N1 with
      | some r1 =>
        have hl2 := hr2 r1 hg2
        subst hN1
        repeat' (first | ((with_reducible refine gA ?_); refine AW_giveQ 15 7000 rfl rfl (nxR_at hg) rfl (by simp) (nxR_put t hg) rfl rfl rfl rfl ?_; refine AW_giveEnd' 15 7001 7000 rfl ?_) | ((with_reducible refine gA ?_); (first | refine AW_seq ?_ | refine AW_region ?_ | refine AW_regionD Try.mixed ?_ | refine AW_condT rfl ?_ | refine AW_block ?_ | refine AW_skip ?_)) | (first | ((with_reducible refine gS ?_); refine Es_s (T := Try.tab) rfl rfl rfl rfl ?_) | ((with_reducible refine gD ?_); refine Ed_s (T := Try.tab) rfl rfl rfl rfl ?_)) | ((first | ((with_reducible refine gS ?_); apply Es_q) | ((with_reducible refine gD ?_); apply Ed_q)); rfl; rfl; refine LStep_entry (kav := .agg [.d (.sc (.string f)), .d (.sc (.string t))]) 14 hmem rfl rfl rfl rfl hkM (k2_rep (f, t))) | ((first | ((with_reducible refine gS ?_); apply Es_xs) | ((with_reducible refine gD ?_); apply Ed_xs)); rfl; rfl; (refine LStep_append (T := Try.tab) rfl rfl rfl rfl rfl rfl rfl rfl rfl rfl ?_ ?_ ?_; rfl; (simp only [rowE, List.length_map, List.length_cons, List.length_nil]; omega); (unfold maxLen; simp only [rowE, List.length_map, List.length_cons, List.length_nil]; omega)); rfl) | ((first | ((with_reducible refine gS ?_); apply Es_xn) | ((with_reducible refine gD ?_); apply Ed_xn)); rfl; rfl; (first | refine LStep_updR (T := Try.tab) rfl rfl rfl rfl rfl rfl rfl rfl rfl (nxR_keys _) (nxR_some hg) | refine LStep_updR (T := Try.tab) rfl rfl rfl rfl rfl rfl rfl rfl rfl (nxR_keys _) (nxR_some hg2)); rfl) | ((first | ((with_reducible refine gS ?_); apply Es_xg) | ((with_reducible refine gD ?_); apply Ed_xg)); rfl; rfl; (first | refine LStep_lookupR (T := Try.tab) (nm := 7000) rfl rfl rfl rfl rfl rfl rfl rfl (nxR_keys _) (nxR_some hg) (nxR_at hg) rfl rfl | refine LStep_lookupR (T := Try.tab) (nm := 7001) rfl rfl rfl rfl rfl rfl rfl rfl (nxR_keys _) (nxR_some hg2) (nxR_at hg2) rfl rfl); rfl) | ((first | ((with_reducible refine gS ?_); apply Es_q) | ((with_reducible refine gD ?_); apply Ed_q)); rfl; rfl; (refine LStep_lit (T := Try.tab) rfl rfl rfl rfl rfl rfl rfl rfl ?_; (refine Nat.le_of_ble_eq_true ?_; rfl))) | (refine Es_skip rfl ?_ rfl ?_; (first | rfl | (refine w_tf ?_; assumption) | (refine w_ft ?_; assumption))) | (((with_reducible refine gS ?_); apply Es_xs); rfl; rfl; refine LStep_allocN (T := Try.tab) rfl rfl rfl rfl rfl rfl; rfl) | (((with_reducible refine gS ?_); apply Es_xn); rfl; rfl; (refine LStep_storeN (T := Try.tab) rfl rfl rfl rfl rfl rfl rfl ?_ rfl; (refine Nat.le_of_ble_eq_true ?_; rfl)); rfl) | (with_reducible refine Es_nil ?_) | ((with_reducible refine Ed_nil ?_ ?_); kernel_rfl) | (with_reducible refine then_n ?_))
        all_goals first
            | (refine ⟨_, _, _, _, _, _, _, _, _, _, _, _, rfl, rfl, nxR_at hg2, rfl, by simp, nxR_put f hg2, rfl, rfl, rfl, rfl, ?_⟩
               refine ⟨(a ++ b, acc2 ++ [((f, t), d, n, m)], some (k2V (f, t))), hpm2, by simp, by (repeat' (first | exact trivial | exact rfl | (refine ⟨Or.inl rfl, ?_⟩) | (refine ⟨Or.inr rfl, ?_⟩) | (refine ⟨Or.inr trivial, ?_⟩) | (refine ⟨rfl, ?_⟩) | (refine ⟨?_, ?_⟩))), by (repeat' (first | exact trivial | exact rfl | (refine ⟨Or.inl rfl, ?_⟩) | (refine ⟨Or.inr rfl, ?_⟩) | (refine ⟨Or.inr trivial, ?_⟩) | (refine ⟨rfl, ?_⟩) | (refine ⟨?_, ?_⟩))), ?_, by (repeat' (first | exact trivial | exact rfl | (refine ⟨Or.inl rfl, ?_⟩) | (refine ⟨Or.inr rfl, ?_⟩) | (refine ⟨Or.inr trivial, ?_⟩) | (refine ⟨rfl, ?_⟩) | (refine ⟨?_, ?_⟩)))⟩; dsimp only; rw [hst, etodo_join]; (repeat' (first | exact trivial | exact rfl | (refine ⟨Or.inl rfl, ?_⟩) | (refine ⟨Or.inr rfl, ?_⟩) | (refine ⟨Or.inr trivial, ?_⟩) | (refine ⟨rfl, ?_⟩) | (refine ⟨?_, ?_⟩))); done)
            | trace_state
      | none =>
        subst hN1
        repeat' (first | ((with_reducible refine gA ?_); refine AW_giveQ 15 7000 rfl rfl (nxR_at hg) rfl (by simp) (nxR_put t hg) rfl rfl rfl rfl ?_; refine AW_giveEnd' 15 7001 7000 rfl ?_) | ((with_reducible refine gA ?_); (first | refine AW_seq ?_ | refine AW_region ?_ | refine AW_regionD Try.mixed ?_ | refine AW_condT rfl ?_ | refine AW_block ?_ | refine AW_skip ?_)) | (first | ((with_reducible refine gS ?_); refine Es_s (T := Try.tab) rfl rfl rfl rfl ?_) | ((with_reducible refine gD ?_); refine Ed_s (T := Try.tab) rfl rfl rfl rfl ?_)) | ((first | ((with_reducible refine gS ?_); apply Es_q) | ((with_reducible refine gD ?_); apply Ed_q)); rfl; rfl; refine LStep_entry (kav := .agg [.d (.sc (.string f)), .d (.sc (.string t))]) 14 hmem rfl rfl rfl rfl hkM (k2_rep (f, t))) | ((first | ((with_reducible refine gS ?_); apply Es_xs) | ((with_reducible refine gD ?_); apply Ed_xs)); rfl; rfl; (first | refine LStep_lookupR0 (T := Try.tab) (nm := 7001) rfl rfl rfl rfl rfl rfl rfl rfl (nxR_keys _) (nxR_none hg2) rfl rfl | (refine LStep_append (T := Try.tab) rfl rfl rfl rfl rfl rfl rfl rfl rfl rfl ?_ ?_ ?_; rfl; (simp only [rowE, List.length_map, List.length_cons, List.length_nil]; omega); (unfold maxLen; simp only [rowE, List.length_map, List.length_cons, List.length_nil]; omega))); rfl) | ((first | ((with_reducible refine gS ?_); apply Es_xn) | ((with_reducible refine gD ?_); apply Ed_xn)); rfl; rfl; (first | refine LStep_updR (T := Try.tab) rfl rfl rfl rfl rfl rfl rfl rfl rfl (nxR_keys _) (nxR_some hg) | refine LStep_updR0 (T := Try.tab) rfl rfl rfl rfl rfl rfl rfl rfl rfl (nxR_keys _) (nxR_none hg2)); rfl) | ((first | ((with_reducible refine gS ?_); apply Es_xg) | ((with_reducible refine gD ?_); apply Ed_xg)); rfl; rfl; refine LStep_lookupR (T := Try.tab) (nm := 7000) rfl rfl rfl rfl rfl rfl rfl rfl (nxR_keys _) (nxR_some hg) (nxR_at hg) rfl rfl; rfl) | ((first | ((with_reducible refine gS ?_); apply Es_q) | ((with_reducible refine gD ?_); apply Ed_q)); rfl; rfl; (refine LStep_lit (T := Try.tab) rfl rfl rfl rfl rfl rfl rfl rfl ?_; (refine Nat.le_of_ble_eq_true ?_; rfl))) | (refine Es_skip rfl ?_ rfl ?_; (first | rfl | (refine w_tf ?_; assumption) | (refine w_ft ?_; assumption))) | (((with_reducible refine gS ?_); apply Es_xs); rfl; rfl; refine LStep_allocN (T := Try.tab) rfl rfl rfl rfl rfl rfl; rfl) | (((with_reducible refine gS ?_); apply Es_xn); rfl; rfl; (refine LStep_storeN (T := Try.tab) rfl rfl rfl rfl rfl rfl rfl ?_ rfl; (refine Nat.le_of_ble_eq_true ?_; rfl)); rfl) | (with_reducible refine Es_nil ?_) | ((with_reducible refine Ed_nil ?_ ?_); kernel_rfl) | (with_reducible refine then_n ?_))
        all_goals first
            | (refine ⟨_, _, _, _, _, _, _, _, _, _, _, _, rfl, rfl, (nxR_new f hg2).1, rfl, by simp, (nxR_new f hg2).2, rfl, rfl, rfl, rfl, ?_⟩
               refine ⟨(a ++ b, acc2 ++ [((f, t), d, n, m)], some (k2V (f, t))), hpm2, by simp, by (repeat' (first | exact trivial | exact rfl | (refine ⟨Or.inl rfl, ?_⟩) | (refine ⟨Or.inr rfl, ?_⟩) | (refine ⟨Or.inr trivial, ?_⟩) | (refine ⟨rfl, ?_⟩) | (refine ⟨?_, ?_⟩))), by (repeat' (first | exact trivial | exact rfl | (refine ⟨Or.inl rfl, ?_⟩) | (refine ⟨Or.inr rfl, ?_⟩) | (refine ⟨Or.inr trivial, ?_⟩) | (refine ⟨rfl, ?_⟩) | (refine ⟨?_, ?_⟩))), ?_, by (repeat' (first | exact trivial | exact rfl | (refine ⟨Or.inl rfl, ?_⟩) | (refine ⟨Or.inr rfl, ?_⟩) | (refine ⟨Or.inr trivial, ?_⟩) | (refine ⟨rfl, ?_⟩) | (refine ⟨?_, ?_⟩)))⟩; dsimp only; rw [hst, etodo_join]; (repeat' (first | exact trivial | exact rfl | (refine ⟨Or.inl rfl, ?_⟩) | (refine ⟨Or.inr rfl, ?_⟩) | (refine ⟨Or.inr trivial, ?_⟩) | (refine ⟨rfl, ?_⟩) | (refine ⟨?_, ?_⟩))); done)
            | trace_state
    | none =>
      cases hg2 : aget t N1 with
      | some r1 =>
        have hl2 := hr2 r1 hg2
        subst hN1
        repeat' (first | ((with_reducible refine gA ?_); refine AW_giveQ 15 7000 rfl rfl (nxR_new t hg).1 rfl (by simp) (nxR_new t hg).2 rfl rfl rfl rfl ?_; refine AW_giveEnd' 15 7001 7000 rfl ?_) | ((with_reducible refine gA ?_); (first | refine AW_seq ?_ | refine AW_region ?_ | refine AW_regionD Try.mixed ?_ | refine AW_condT rfl ?_ | refine AW_block ?_ | refine AW_skip ?_)) | (first | ((with_reducible refine gS ?_); refine Es_s (T := Try.tab) rfl rfl rfl rfl ?_) | ((with_reducible refine gD ?_); refine Ed_s (T := Try.tab) rfl rfl rfl rfl ?_)) | ((first | ((with_reducible refine gS ?_); apply Es_q) | ((with_reducible refine gD ?_); apply Ed_q)); rfl; rfl; refine LStep_entry (kav := .agg [.d (.sc (.string f)), .d (.sc (.string t))]) 14 hmem rfl rfl rfl rfl hkM (k2_rep (f, t))) | ((first | ((with_reducible refine gS ?_); apply Es_xs) | ((with_reducible refine gD ?_); apply Ed_xs)); rfl; rfl; (first | refine LStep_lookupR0 (T := Try.tab) (nm := 7000) rfl rfl rfl rfl rfl rfl rfl rfl (nxR_keys _) (nxR_none hg) rfl rfl | (refine LStep_append (T := Try.tab) rfl rfl rfl rfl rfl rfl rfl rfl rfl rfl ?_ ?_ ?_; rfl; (simp only [rowE, List.length_map, List.length_cons, List.length_nil]; omega); (unfold maxLen; simp only [rowE, List.length_map, List.length_cons, List.length_nil]; omega))); rfl) | ((first | ((with_reducible refine gS ?_); apply Es_xn) | ((with_reducible refine gD ?_); apply Ed_xn)); rfl; rfl; (first | refine LStep_updR0 (T := Try.tab) rfl rfl rfl rfl rfl rfl rfl rfl rfl (nxR_keys _) (nxR_none hg) | refine LStep_updR (T := Try.tab) rfl rfl rfl rfl rfl rfl rfl rfl rfl (nxR_keys _) (nxR_some hg2)); rfl) | ((first | ((with_reducible refine gS ?_); apply Es_xg) | ((with_reducible refine gD ?_); apply Ed_xg)); rfl; rfl; refine LStep_lookupR (T := Try.tab) (nm := 7001) rfl rfl rfl rfl rfl rfl rfl rfl (nxR_keys _) (nxR_some hg2) (nxR_at hg2) rfl rfl; rfl) | ((first | ((with_reducible refine gS ?_); apply Es_q) | ((with_reducible refine gD ?_); apply Ed_q)); rfl; rfl; (refine LStep_lit (T := Try.tab) rfl rfl rfl rfl rfl rfl rfl rfl ?_; (refine Nat.le_of_ble_eq_true ?_; rfl))) | (refine Es_skip rfl ?_ rfl ?_; (first | rfl | (refine w_tf ?_; assumption) | (refine w_ft ?_; assumption))) | (((with_reducible refine gS ?_); apply Es_xs); rfl; rfl; refine LStep_allocN (T := Try.tab) rfl rfl rfl rfl rfl rfl; rfl) | (((with_reducible refine gS ?_); apply Es_xn); rfl; rfl; (refine LStep_storeN (T := Try.tab) rfl rfl rfl rfl rfl rfl rfl ?_ rfl; (refine Nat.le_of_ble_eq_true ?_; rfl)); rfl) | (with_reducible refine Es_nil ?_) | ((with_reducible refine Ed_nil ?_ ?_); kernel_rfl) | (with_reducible refine then_n ?_))
        all_goals first
            | (refine ⟨_, _, _, _, _, _, _, _, _, _, _, _, rfl, rfl, nxR_at hg2, rfl, by simp, nxR_put f hg2, rfl, rfl, rfl, rfl, ?_⟩
               refine ⟨(a ++ b, acc2 ++ [((f, t), d, n, m)], some (k2V (f, t))), hpm2, by simp, by (repeat' (first | exact trivial | exact rfl | (refine ⟨Or.inl rfl, ?_⟩) | (refine ⟨Or.inr rfl, ?_⟩) | (refine ⟨Or.inr trivial, ?_⟩) | (refine ⟨rfl, ?_⟩) | (refine ⟨?_, ?_⟩))), by (repeat' (first | exact trivial | exact rfl | (refine ⟨Or.inl rfl, ?_⟩) | (refine ⟨Or.inr rfl, ?_⟩) | (refine ⟨Or.inr trivial, ?_⟩) | (refine ⟨rfl, ?_⟩) | (refine ⟨?_, ?_⟩))), ?_, by (repeat' (first | exact trivial | exact rfl | (refine ⟨Or.inl rfl, ?_⟩) | (refine ⟨Or.inr rfl, ?_⟩) | (refine ⟨Or.inr trivial, ?_⟩) | (refine ⟨rfl, ?_⟩) | (refine ⟨?_, ?_⟩)))⟩; dsimp only; rw [hst, etodo_join]; (repeat' (first | exact trivial | exact rfl | (refine ⟨Or.inl rfl, ?_⟩) | (refine ⟨Or.inr rfl, ?_⟩) | (refine ⟨Or.inr trivial, ?_⟩) | (refine ⟨rfl, ?_⟩) | (refine ⟨?_, ?_⟩))); done)
            | trace_state
      | none =>
        subst hN1
        repeat' (first | ((with_reducible refine gA ?_); refine AW_giveQ 15 7000 rfl rfl (nxR_new t hg).1 rfl (by simp) (nxR_new t hg).2 rfl rfl rfl rfl ?_; refine AW_giveEnd' 15 7001 7000 rfl ?_) | ((with_reducible refine gA ?_); (first | refine AW_seq ?_ | refine AW_region ?_ | refine AW_regionD Try.mixed ?_ | refine AW_condT rfl ?_ | refine AW_block ?_ | refine AW_skip ?_)) | (first | ((with_reducible refine gS ?_); refine Es_s (T := Try.tab) rfl rfl rfl rfl ?_) | ((with_reducible refine gD ?_); refine Ed_s (T := Try.tab) rfl rfl rfl rfl ?_)) | ((first | ((with_reducible refine gS ?_); apply Es_q) | ((with_reducible refine gD ?_); apply Ed_q)); rfl; rfl; refine LStep_entry (kav := .agg [.d (.sc (.string f)), .d (.sc (.string t))]) 14 hmem rfl rfl rfl rfl hkM (k2_rep (f, t))) | ((first | ((with_reducible refine gS ?_); apply Es_xs) | ((with_reducible refine gD ?_); apply Ed_xs)); rfl; rfl; (first | refine LStep_lookupR0 (T := Try.tab) (nm := 7000) rfl rfl rfl rfl rfl rfl rfl rfl (nxR_keys _) (nxR_none hg) rfl rfl | refine LStep_lookupR0 (T := Try.tab) (nm := 7001) rfl rfl rfl rfl rfl rfl rfl rfl (nxR_keys _) (nxR_none hg2) rfl rfl | (refine LStep_append (T := Try.tab) rfl rfl rfl rfl rfl rfl rfl rfl rfl rfl ?_ ?_ ?_; rfl; (simp only [List.length_cons, List.length_nil]; omega); (unfold maxLen; simp only [List.length_cons, List.length_nil]; omega))); rfl) | ((first | ((with_reducible refine gS ?_); apply Es_xn) | ((with_reducible refine gD ?_); apply Ed_xn)); rfl; rfl; (first | refine LStep_updR0 (T := Try.tab) rfl rfl rfl rfl rfl rfl rfl rfl rfl (nxR_keys _) (nxR_none hg) | refine LStep_updR0 (T := Try.tab) rfl rfl rfl rfl rfl rfl rfl rfl rfl (nxR_keys _) (nxR_none hg2)); rfl) | ((first | ((with_reducible refine gS ?_); apply Es_q) | ((with_reducible refine gD ?_); apply Ed_q)); rfl; rfl; (refine LStep_lit (T := Try.tab) rfl rfl rfl rfl rfl rfl rfl rfl ?_; (refine Nat.le_of_ble_eq_true ?_; rfl))) | (refine Es_skip rfl ?_ rfl ?_; (first | rfl | (refine w_tf ?_; assumption) | (refine w_ft ?_; assumption))) | (((with_reducible refine gS ?_); apply Es_xs); rfl; rfl; refine LStep_allocN (T := Try.tab) rfl rfl rfl rfl rfl rfl; rfl) | (((with_reducible refine gS ?_); apply Es_xn); rfl; rfl; (refine LStep_storeN (T := Try.tab) rfl rfl rfl rfl rfl rfl rfl ?_ rfl; (refine Nat.le_of_ble_eq_true ?_; rfl)); rfl) | (with_reducible refine Es_nil ?_) | ((with_reducible refine Ed_nil ?_ ?_); kernel_rfl) | (with_reducible refine then_n ?_))
        all_goals first
            | (refine ⟨_, _, _, _, _, _, _, _, _, _, _, _, rfl, rfl, (nxR_new f hg2).1, rfl, by simp, (nxR_new f hg2).2, rfl, rfl, rfl, rfl, ?_⟩
               refine ⟨(a ++ b, acc2 ++ [((f, t), d, n, m)], some (k2V (f, t))), hpm2, by simp, by (repeat' (first | exact trivial | exact rfl | (refine ⟨Or.inl rfl, ?_⟩) | (refine ⟨Or.inr rfl, ?_⟩) | (refine ⟨Or.inr trivial, ?_⟩) | (refine ⟨rfl, ?_⟩) | (refine ⟨?_, ?_⟩))), by (repeat' (first | exact trivial | exact rfl | (refine ⟨Or.inl rfl, ?_⟩) | (refine ⟨Or.inr rfl, ?_⟩) | (refine ⟨Or.inr trivial, ?_⟩) | (refine ⟨rfl, ?_⟩) | (refine ⟨?_, ?_⟩))), ?_, by (repeat' (first | exact trivial | exact rfl | (refine ⟨Or.inl rfl, ?_⟩) | (refine ⟨Or.inr rfl, ?_⟩) | (refine ⟨Or.inr trivial, ?_⟩) | (refine ⟨rfl, ?_⟩) | (refine ⟨?_, ?_⟩)))⟩; dsimp only; rw [hst, etodo_join]; (repeat' (first | exact trivial | exact rfl | (refine ⟨Or.inl rfl, ?_⟩) | (refine ⟨Or.inr rfl, ?_⟩) | (refine ⟨Or.inr trivial, ?_⟩) | (refine ⟨rfl, ?_⟩) | (refine ⟨?_, ?_⟩))); done)
            | trace_state
  have hm0 := etodo_nil h0
  subst hm0
  rw [List.append_nil] at hp
  have hN := nbM_spec (akeys acc2)
  have hNp : (akeys acc2).Perm (akeys (chM l day)) := (hp.trans hpM).map _
  have hNl : ∀ p ∈ nbM (akeys acc2), p.2.length ≤ 8192 := fun p hp' => by
    have h1 := row_len (aget_of_mem hN.1 hp')
    omega
  have hNP := nbM_perm hNp
  generalize nbM (akeys acc2) = N at *
  repeat' (first | ((with_reducible refine gA ?_); refine AW_noIt 14 rfl ?_) | ((with_reducible refine gA ?_); (first | refine AW_seq ?_ | refine AW_region ?_ | refine AW_condF rfl ?_ | refine AW_block ?_ | refine AW_exit ?_)) | ((with_reducible refine gS ?_); refine Es_s (T := Try.tab) rfl rfl rfl rfl ?_) | (((with_reducible refine gS ?_); apply Es_xg); rfl; rfl; refine LStep_rangeR (T := Try.tab) rfl rfl rfl rfl rfl rfl rfl; rfl) | (with_reducible refine Es_nil ?_) | (with_reducible refine then_n ?_) | (with_reducible refine then_e ?_) | ((with_reducible refine block_e ?_ ?_); rfl))
  have hkR : ∀ F : (ByteArray × List ByteArray) → List ByteArray, ((nxR (N.map fun p => (p.1, F p))).map (·.1)).Nodup := fun F => by
    unfold nxR
    rw [List.map_map, List.map_map]
    have h1 := hN.1
    unfold akeys at h1
    rw [List.nodup_iff_pairwise_ne, List.pairwise_map] at h1 ⊢
    exact h1.imp (fun {a b} hne e => hne (sV_inj _ _ e))
  refine AW_forE (S := List ByteArray × Option Value) (fun t => t.1.Nodup ∧ ∀ q ∈ t.1, q ∈ akeys N) (fun _ => []) (fun t => [(15, some (.nx 9 35 9 1 (nxR (N.map fun p => (p.1, rowU t.1 p))) none (some (96, t.1.map sV, t.2))))]) (fun t => t.1.length) (akeys N, none) ⟨hN.1, fun q h => h⟩ (by (repeat' (first | exact trivial | exact rfl | (refine ⟨Or.inl rfl, ?_⟩) | (refine ⟨Or.inr rfl, ?_⟩) | (refine ⟨Or.inr trivial, ?_⟩) | (refine ⟨rfl, ?_⟩) | (refine ⟨?_, ?_⟩)))) (by rw [rowU_all, nxR_keysV]; (repeat' (first | exact trivial | exact rfl | (refine ⟨Or.inl rfl, ?_⟩) | (refine ⟨Or.inr rfl, ?_⟩) | (refine ⟨Or.inr trivial, ?_⟩) | (refine ⟨rfl, ?_⟩) | (refine ⟨?_, ?_⟩)))) ?_
  intro ⟨td, cur⟩ ⟨hnd, hsub⟩
  dsimp only at hnd hsub ⊢
  refine AW_giveOpt 15 7002 ?_
  refine AW_seq ?_
  refine AW_region ?_
  refine Es_nextR 15 rfl rfl rfl rfl rfl rfl (hkR _) (hnd.map_sV) (fun h0 => ?_) (fun pre k post h0 => ?_)
  rotate_left
  · obtain ⟨a, q, b, rfl, rfl, rfl, rfl⟩ := mapR_split h0
    obtain ⟨p, hpN, e0⟩ := List.mem_map.1 (hsub q (by simp))
    obtain ⟨q', r⟩ := p
    dsimp only at e0
    subst e0
    obtain ⟨n, hn'⟩ := List.getElem?_of_mem hpN
    obtain ⟨hrow, hset⟩ := rowU_step hN.1 hn' hnd
    have hr0 := hN.2.1 _ hpN
    have hrl := hNl _ hpN
    dsimp only at hr0 hrl
    have cs : AC Try.prog 44 _ _ _ _ := sortStrs_ac Try.sortStrs (callable_of Try.func44 rfl rfl) 9 (rowE r).length r (List.length_map _) (by omega)
    have hsl : (rowE r).length = (rowE (sortS r)).length := by
      unfold rowE
      rw [List.length_map, List.length_map, (sortS_perm r).length_eq]
    have hsp : 0 < (rowE r).length := by
      unfold rowE
      rw [List.length_map]
      exact List.length_pos_iff.2 hr0
    repeat' (first | ((with_reducible refine gA ?_); (first | refine AW_seq ?_ | refine AW_region ?_ | refine AW_condT rfl ?_ | refine AW_block ?_ | refine AW_skip ?_)) | ((with_reducible refine gS ?_); refine Es_s (T := Try.tab) rfl rfl rfl rfl ?_) | (((with_reducible refine gS ?_); apply Es_xg); rfl; rfl; (first | refine LStep_entryR (nm := 7002) 15 hrow rfl rfl rfl rfl (hkR _) (s_rep q') rfl rfl | refine LStep_callHN [(1000, 7002)] [] cs rfl rfl ⟨rfl, trivial⟩ rfl ⟨hsl, trivial⟩ rfl rfl); rfl) | (with_reducible refine Es_nil ?_) | (with_reducible refine then_n ?_) | (with_reducible refine block_n ?_))
    all_goals first
      | (refine .inr ⟨_, _, _, _, _, _, _, _, _, _, _, _, rfl, rfl, hrow, hsl.symm, hsp, hset, rfl, rfl, rfl, rfl, ?_⟩
         refine ⟨(a ++ b, some (sV q')), ⟨?_, fun x hx => hsub x ?_⟩, by simp, by (repeat' (first | exact trivial | exact rfl | (refine ⟨Or.inl rfl, ?_⟩) | (refine ⟨Or.inr rfl, ?_⟩) | (refine ⟨Or.inr trivial, ?_⟩) | (refine ⟨rfl, ?_⟩) | (refine ⟨?_, ?_⟩))), by (repeat' (first | exact trivial | exact rfl | (refine ⟨Or.inl rfl, ?_⟩) | (refine ⟨Or.inr rfl, ?_⟩) | (refine ⟨Or.inr trivial, ?_⟩) | (refine ⟨rfl, ?_⟩) | (refine ⟨?_, ?_⟩))), ?_, by (repeat' (first | exact trivial | exact rfl | (refine ⟨Or.inl rfl, ?_⟩) | (refine ⟨Or.inr rfl, ?_⟩) | (refine ⟨Or.inr trivial, ?_⟩) | (refine ⟨rfl, ?_⟩) | (refine ⟨?_, ?_⟩)))⟩
         · have : (q' :: (a ++ b)).Nodup := (List.perm_middle.nodup_iff).1 hnd
           exact (List.nodup_cons.1 this).2
         · dsimp only at hx
           rcases List.mem_append.1 hx with g | g
           · exact List.mem_append_left _ g
           · exact List.mem_append_right _ (List.mem_cons_of_mem _ g)
         · dsimp only
           rw [List.map_append]
           (repeat' (first | exact trivial | exact rfl | (refine ⟨Or.inl rfl, ?_⟩) | (refine ⟨Or.inr rfl, ?_⟩) | (refine ⟨Or.inr trivial, ?_⟩) | (refine ⟨rfl, ?_⟩) | (refine ⟨?_, ?_⟩))))
      | trace_state
  have htd : td = [] := List.map_eq_nil_iff.1 h0
  subst htd
  have hall : (N.map fun p => (p.1, rowU [] p)) = N.map fun p => (p.1, sortS p.2) := List.map_congr_left (fun p _ => by rw [rowU_out (by simp)])
  have hpP : (emap k2V dtV M).Perm (prE l day) := hpM.map _
  have hpN : ((nxR (N.map fun p => (p.1, sortS p.2))).map fun p => (p.1, AV.d (.sl 1 p.2))).Perm (nbE l day) := by
    have h1 := hNP.map (fun p : ByteArray × List ByteArray => (sV p.1, AV.d (.sl 1 (rowE p.2))))
    unfold srtN at h1
    unfold nxR nbE
    rw [List.map_map, List.map_map] at h1
    rw [List.map_map, List.map_map]
    exact h1
  rw [hall]
  repeat' (first | ((with_reducible refine gA ?_); (first | refine AW_seq ?_ | refine AW_condF rfl ?_ | refine AW_exit ?_)) | ((with_reducible refine gS ?_); refine Es_s (T := Try.tab) rfl rfl rfl rfl ?_) | (with_reducible refine Es_nil ?_) | (with_reducible refine then_n ?_) | (with_reducible refine then_e ?_))
  refine .inl ?_
  repeat' (first | ((with_reducible refine gA ?_); refine AW_noItR 15 rfl ?_; refine AW_freezeR 15 rfl ?_; refine AW_toP 15 (nbE l day) rfl hpN ?_; refine AW_toP 14 (prE l day) rfl hpP ?_) | ((with_reducible refine gA ?_); (first | refine AW_seq ?_ | refine AW_region ?_ | refine AW_ret ?_)) | ((with_reducible refine gS ?_); refine Es_s (T := Try.tab) rfl rfl rfl rfl ?_) | (((with_reducible refine gS ?_); apply Es_xn); rfl; rfl; (refine LStep_storeN (T := Try.tab) rfl rfl rfl rfl rfl rfl rfl ?_ rfl; (refine Nat.le_of_ble_eq_true ?_; rfl)); rfl) | (with_reducible refine Es_nil ?_) | (with_reducible refine then_n ?_) | (with_reducible refine then_e ?_) | ((with_reducible refine block_e ?_ ?_); rfl) | ((with_reducible refine gC ?_); first | refine retC1 rfl ?_ | refine endC1 rfl ?_))
  all_goals first
    | exact ⟨rfl, by (repeat' (first | exact trivial | exact rfl | (refine ⟨Or.inl rfl, ?_⟩) | (refine ⟨Or.inr rfl, ?_⟩) | (refine ⟨Or.inr trivial, ?_⟩) | (refine ⟨rfl, ?_⟩) | (refine ⟨?_, ?_⟩)))⟩
    | trace_state
end Go.Proofs.Ytofdnkgieigncaa
