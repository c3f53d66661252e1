import Derived.Test.YtjadbgmohmgaaaaJ3
namespace Go.Proofs.Ytjadbgmohmgaaaa
open Go.SL

/-! ### what is taken -/
abbrev P2 := ByteArray × Int
def setM (g : ByteArray) (v : Int) : List P2 → List P2
  | [] => [(g, v)]
  | p :: r => if g = p.1 then (p.1, v) :: r else p :: setM g v r
theorem mE_set (g : ByteArray) (v : Int) : ∀ m, mput (.string g) (.d (.sc (.int .i64 v))) (mE m) = mE (setM g v m)
  | [] => by simp [mE, setM, mput_nil, pE2]
  | p :: r => by
    show mput _ _ ((.string p.1, .d (.sc (.int .i64 p.2))) :: mE r) = _
    rw [mput_cons, keq_str, setM]
    by_cases e : g = p.1
    · rw [if_pos e, decide_eq_true e, cond_true, e]
      rfl
    · rw [if_neg e, decide_eq_false e, cond_false, mE_set g v r]
      rfl
def subM (dn A : List P2) : List P2 := A.map fun p => (p.1, p.2 - (getM p.1 dn).getD 0)
theorem subM_keys (dn A : List P2) : (subM dn A).map (·.1) = A.map (·.1) := by simp [subM, List.map_map, Function.comp_def]
theorem subM_nil (A : List P2) : subM [] A = A := by
  unfold subM
  simp [getM]
theorem getM_sub (g : ByteArray) (dn : List P2) : ∀ A, getM g (subM dn A) = (getM g A).map fun a => a - (getM g dn).getD 0
  | [] => rfl
  | p :: r => by
    show getM g ((p.1, p.2 - (getM p.1 dn).getD 0) :: subM dn r) = _
    rw [getM, getM]
    by_cases e : g = p.1
    · rw [if_pos e, if_pos e, e]; rfl
    · rw [if_neg e, if_neg e]; exact getM_sub g dn r
theorem getM_none {g : ByteArray} : ∀ {m : List P2}, g ∉ m.map (·.1) → getM g m = none
  | [], _ => rfl
  | p :: r, h => by
    rw [List.map_cons, List.mem_cons, not_or] at h
    rw [getM, if_neg h.1]
    exact getM_none h.2
theorem getM_app (k g : ByteArray) (n : Int) : ∀ {dn : List P2}, g ∉ dn.map (·.1) → getM k (dn ++ [(g, n)]) = if k = g then some n else getM k dn
  | [], _ => by simp [getM]
  | p :: r, h => by
    rw [List.map_cons, List.mem_cons, not_or] at h
    show getM k (p :: (r ++ [(g, n)])) = _
    rw [getM, getM]
    by_cases e : k = p.1
    · rw [if_pos e, if_pos e, if_neg (fun e2 => h.1 (e2.symm.trans e))]
    · rw [if_neg e, if_neg e]; exact getM_app k g n h.2
theorem subM_far {g : ByteArray} {n : Int} {dn : List P2} (hg : g ∉ dn.map (·.1)) {A : List P2} (hA : g ∉ A.map (·.1)) : subM (dn ++ [(g, n)]) A = subM dn A := by
  unfold subM
  refine List.map_congr_left (fun p hp => ?_)
  have : p.1 ≠ g := fun e => hA (List.mem_map.2 ⟨p, hp, e⟩)
  rw [getM_app _ _ _ hg, if_neg this]
theorem setM_sub {g : ByteArray} {n a : Int} {dn : List P2} (hg : g ∉ dn.map (·.1)) : ∀ {A : List P2}, (A.map (·.1)).Nodup → getM g A = some a → setM g (a - n) (subM dn A) = subM (dn ++ [(g, n)]) A
  | [], _, h => by simp [getM] at h
  | p :: r, hnd, h => by
    rw [List.map_cons, List.nodup_cons] at hnd
    show setM g (a - n) ((p.1, p.2 - (getM p.1 dn).getD 0) :: subM dn r) = (p.1, p.2 - (getM p.1 (dn ++ [(g, n)])).getD 0) :: subM (dn ++ [(g, n)]) r
    rw [getM] at h
    rw [setM, getM_app _ _ _ hg]
    by_cases e : g = p.1
    · rw [if_pos e] at h
      cases h
      rw [if_pos e, if_pos e.symm, subM_far hg (e ▸ hnd.1)]
      rfl
    · rw [if_neg e] at h
      rw [if_neg e, if_neg (fun h => e h.symm), setM_sub hg hnd.2 h]
theorem getM_mem {g : ByteArray} {v : Int} : ∀ {m : List P2}, (m.map (·.1)).Nodup → (getM g m = some v ↔ (g, v) ∈ m)
  | [], _ => by simp [getM]
  | p :: r, h => by
    rw [List.map_cons, List.nodup_cons] at h
    rw [getM, List.mem_cons]
    by_cases e : g = p.1
    · rw [if_pos e]
      constructor
      · intro h2; cases h2; exact .inl (by rw [e])
      · rintro (h2 | h2)
        · rw [← h2]
        · exact absurd (List.mem_map.2 ⟨_, h2, e⟩) h.1
    · rw [if_neg e, getM_mem h.2]
      constructor
      · exact .inr
      · rintro (h2 | h2)
        · exact absurd (by rw [← h2]) e
        · exact h2
theorem getM_perm {m m' : List P2} (h : m.Perm m') (hn : (m'.map (·.1)).Nodup) (g : ByteArray) : getM g m = getM g m' := by
  have hn' : (m.map (·.1)).Nodup := (h.map _).nodup_iff.2 hn
  cases h1 : getM g m with
  | some v => rw [(getM_mem hn).2 (h.mem_iff.1 ((getM_mem hn').1 h1))]
  | none =>
    cases h2 : getM g m' with
    | none => rfl
    | some v => rw [(getM_mem hn').2 (h.mem_iff.2 ((getM_mem hn).1 h2))] at h1; cases h1
theorem subM_perm {m m' : List P2} (h : m.Perm m') (hn : (m'.map (·.1)).Nodup) (A : List P2) : subM m A = subM m' A := by
  unfold subM
  exact List.map_congr_left (fun p _ => by rw [getM_perm h hn])
theorem addM_keys (g : ByteArray) (n : Int) : ∀ m : List P2, (g ∈ m.map (·.1) → (addM g n m).map (·.1) = m.map (·.1)) ∧ (g ∉ m.map (·.1) → (addM g n m).map (·.1) = m.map (·.1) ++ [g])
  | [] => ⟨fun h => by simp at h, fun _ => rfl⟩
  | p :: r => by
    obtain ⟨h1, h2⟩ := addM_keys g n r
    rw [addM]
    by_cases e : g = p.1
    · rw [if_pos e]
      exact ⟨fun _ => rfl, fun h => absurd (by rw [List.map_cons, e]; exact List.mem_cons_self) h⟩
    · rw [if_neg e, List.map_cons, List.map_cons]
      refine ⟨fun h => ?_, fun h => ?_⟩
      · rw [h1 ((List.mem_cons.1 h).resolve_left e)]
      · rw [h2 (fun h3 => h (List.mem_cons_of_mem _ h3))]; rfl
theorem cntM_nodup (l : List Lot) : ((cntM l).map (·.1)).Nodup ∧ (cntM l).length ≤ l.length := by
  refine list_snoc (p := fun l => ((cntM l).map (·.1)).Nodup ∧ (cntM l).length ≤ l.length) ⟨by simp [cntM], by simp [cntM]⟩ (fun l x ih => ?_) l
  rw [cntM_snoc]
  by_cases hp : 0 < x.count
  · rw [if_pos hp]
    have hk := addM_keys x.good x.count (cntM l)
    by_cases h : x.good ∈ (cntM l).map (·.1)
    · have hk := hk.1 h
      have hlen := congrArg List.length hk
      rw [List.length_map, List.length_map] at hlen
      rw [hk, hlen]
      exact ⟨ih.1, by simp; omega⟩
    · have hk := hk.2 h
      have hlen := congrArg List.length hk
      rw [List.length_map, List.length_append, List.length_map] at hlen
      simp only [List.length_cons, List.length_nil] at hlen
      rw [hk, hlen, List.nodup_append]
      exact ⟨⟨ih.1, by simp, fun a ha b hb => by simp at hb; subst hb; exact fun e => h (e ▸ ha)⟩, by simp; omega⟩
  · rw [if_neg hp]
    exact ⟨ih.1, by simp; omega⟩
def takeOk (A B : List P2) : Bool := B.all fun p => decide (p.2 ≤ (getM p.1 A).getD 0)
def takeS (A B : List P2) : List P2 := sortM ((subM B A).filter fun p => decide (p.2 ≠ 0))
def takeR (A B : List P2) : AV := if takeOk A B = true then .tup [.d (.sl 2 ((takeS A B).map pL)), .d (.sc (.bool true))] else .tup [.d (.sl 2 []), .d (.sc (.bool false))]
set_option maxRecDepth 20000 in
set_option maxHeartbeats 2000000 in
theorem take_ac (l m : List Lot) (hl : SumOk l) (hm : SumOk m) : AC Try.prog 24 [.d (.sl 2 (l.map Lot.enc)), .d (.sl 2 (m.map Lot.enc))] [] [] (fun r _ => r = takeR (cntM l) (cntM m)) := by
  have cA := cntM_ac l hl
  have cB := cntM_ac m hm
  obtain ⟨hA, hAl⟩ := cntM_nodup l
  obtain ⟨hB, _⟩ := cntM_nodup m
  have bA := fun g => cntM_bound g l hl.2
  have bB := fun g => cntM_bound g m hm.2
  have l1 := hl.1
  have l2 := hm.1
  generalize cntM l = A at cA hA hAl bA ⊢
  generalize cntM m = B at cB hB bB ⊢
  have h00 := subM_nil A
  have hkeys := mE_nodup hB
  refine AC_enter Try.func24 rfl Try.ntmps24 (rv := [.tmp 4, .tmp 5]) rfl rfl (by simp) (fun w X G => ?_)
  repeat' (first | ((with_reducible refine gA ?_); (first | refine AW_seq ?_ | refine AW_region ?_ | refine AW_regionD Try.mixed ?_ | refine AW_condT rfl ?_ | refine AW_condF rfl ?_ | (refine AW_condY rfl ?_ ?_; assumption) | (refine AW_condN rfl ?_ ?_; assumption) | (refine AW_cond rfl (fun hc => ?_) (fun hc => ?_) <;> try (exfalso; simp only [cmpL] at hc; omega)) | refine AW_block ?_ | refine AW_ret ?_ | refine AW_skip ?_ | refine AW_exit ?_)) | (first | ((with_reducible refine gS ?_); refine Es_s (T := Try.tab) rfl rfl rfl rfl ?_) | ((with_reducible refine gD ?_); refine Ed_s (T := Try.tab) rfl rfl rfl rfl ?_)) | ((first | ((with_reducible refine gS ?_); apply Es_xg) | ((with_reducible refine gD ?_); apply Ed_xg)); rfl; (first | rfl | (refine w_tt ?_; assumption) | (refine w_ff ?_; assumption)); (first | refine LStep_callHN [] [(6, 10)] cA rfl rfl trivial rfl trivial rfl rfl | refine LStep_callHN [] [(6, 12)] cB rfl rfl trivial rfl trivial rfl rfl | refine LStep_range (T := Try.tab) rfl rfl rfl rfl rfl rfl rfl); rfl) | ((first | ((with_reducible refine gS ?_); apply Es_q) | ((with_reducible refine gD ?_); apply Ed_q)); rfl; (first | rfl | (refine w_tt ?_; assumption) | (refine w_ff ?_; assumption)); (first | refine LStep_simp (T := Try.tab) rfl rfl | refine LStep_lenM (T := Try.tab) rfl rfl rfl rfl | (refine LStep_add rfl rfl rfl rfl ?_; (refine IntWalk.i64_in _ ?_; first | omega | (simp only [cmps] at *; omega))) | (refine LStep_sub rfl rfl rfl rfl ?_; (refine IntWalk.i64_in _ ?_; first | omega | (simp only [cmps] at *; omega))) | (refine LStep_mul rfl rfl rfl rfl ?_; (refine IntWalk.i64_in _ ?_; first | omega | (simp only [cmps] at *; omega))) | (refine LStep_conv (T := Try.tab) rfl rfl rfl rfl rfl ?_; (refine IntWalk.i64_in _ ?_; first | omega | (simp only [cmps] at *; omega))) | refine LStep_wrap (T := Try.tab) rfl rfl | (refine LStep_pickT rfl rfl ?_ rfl rfl; assumption) | (refine LStep_pickF rfl rfl ?_ rfl rfl; assumption) | (refine LStep_indexM (T := Try.tab) (c := ?_) rfl rfl rfl rfl rfl rfl ?_; rotate_left; assumption) | (refine LStep_index (T := Try.tab) (c := ?_) rfl rfl rfl rfl rfl rfl ?_ ?_; rotate_left; omega; (first | assumption | rfl)) | (refine LStep_indexA (T := Try.tab) (c := ?_) rfl rfl rfl rfl rfl rfl ?_ ?_; rotate_left; omega; (first | assumption | rfl)) | (refine LStep_byteM (T := Try.tab) (c := ?_) rfl rfl rfl rfl rfl ?_; rotate_left; assumption) | (refine LStep_byte (T := Try.tab) (c := ?_) rfl rfl rfl rfl rfl ?_ ?_; rotate_left; omega; (first | assumption | rfl)) | (refine LStep_partM (T := Try.tab) rfl rfl rfl rfl rfl rfl rfl ?_ ?_ ?_; omega; (first | omega | (simp only [List.length_map]; omega)); (first | omega | (simp only [List.length_map]; omega))) | (refine LStep_lit (T := Try.tab) rfl rfl rfl rfl rfl rfl rfl rfl ?_; (refine Nat.le_of_ble_eq_true ?_; rfl)) | (refine LStep_litA (T := Try.tab) rfl rfl rfl rfl rfl rfl rfl ?_; (refine Nat.le_of_ble_eq_true ?_; rfl)) | refine LStep_buildN (T := Try.tab) rfl rfl rfl rfl rfl rfl rfl)) | ((first | refine Es_skip rfl ?_ rfl ?_ | refine Ed_skip rfl ?_ rfl ?_); (first | rfl | (refine w_tf ?_; assumption) | (refine w_ft ?_; assumption))) | ((first | ((with_reducible refine gS ?_); apply Es_xs) | ((with_reducible refine gD ?_); apply Ed_xs)); rfl; (first | rfl | (refine w_tt ?_; assumption) | (refine w_ff ?_; assumption)); (first | refine LStep_boxN rfl rfl rfl rfl rfl rfl | refine LStep_box rfl rfl rfl rfl rfl | refine LStep_allocN (T := Try.tab) rfl rfl rfl rfl rfl rfl | refine LStep_makeMap (kt := 0) (et := 0) rfl rfl rfl rfl | refine LStep_makeMapN (T := Try.tab) rfl rfl rfl rfl rfl rfl); rfl) | ((first | ((with_reducible refine gS ?_); apply Es_xn) | ((with_reducible refine gD ?_); apply Ed_xn)); rfl; (first | rfl | (refine w_tt ?_; assumption) | (refine w_ff ?_; assumption)); (first | (refine LStep_storeN (T := Try.tab) rfl rfl rfl rfl rfl rfl rfl ?_ rfl; (refine Nat.le_of_ble_eq_true ?_; rfl)) | (refine LStep_store (T := Try.tab) rfl rfl rfl rfl rfl rfl rfl ?_; (refine Nat.le_of_ble_eq_true ?_; rfl))); rfl) | ((first | refine Es_split rfl ?_ (fun _ => ?_) (fun _ => ?_) | refine Ed_split rfl ?_ (fun _ => ?_) (fun _ => ?_)); ((fail_if_success (refine und_t ?_; assumption)); (fail_if_success (refine und_f ?_; assumption)); exact trivial)) | (with_reducible refine Es_nil ?_) | ((with_reducible refine Ed_nil ?_ ?_); kernel_rfl) | (with_reducible refine then_n ?_) | (with_reducible refine then_r ?_) | (with_reducible refine then_e ?_) | (with_reducible refine block_n ?_) | (with_reducible refine block_r ?_) | ((with_reducible refine block_e ?_ ?_); rfl) | ((with_reducible refine block_x ?_ ?_); rfl) | ((with_reducible refine gR ?_); first | refine ret1 rfl ?_ | refine ret2 rfl rfl ?_ | refine ret0 ?_ | refine end1 rfl ?_ | refine end0 ?_) | ((with_reducible refine gC ?_); first | refine retC1 rfl ?_ | refine endC1 rfl ?_) | ((with_reducible refine gRG ?_); first | refine retGa rfl ?_ | refine retGb rfl ?_ | refine retGc rfl ?_ | refine retG1 rfl rfl ?_ | refine endG1 rfl rfl ?_))
  refine AW_forE (S := List P2 × List P2 × Option Value) (fun s => (s.2.1 ++ s.1).Perm B ∧ ∀ p ∈ s.2.1, p.2 ≤ (getM p.1 A).getD 0) (fun _ => [])
    (fun s => [(10, some (.map 9 3 (mE (subM s.2.1 A)) none)), (12, some (.map 9 3 (mE B) (some (13, (mE s.1).map (·.1), s.2.2))))]) (fun s => s.1.length) (B, [], none) ⟨List.Perm.refl _, fun p hp => by cases hp⟩ (by (repeat' (first | exact trivial | exact rfl | (refine ⟨Or.inl rfl, ?_⟩) | (refine ⟨Or.inr rfl, ?_⟩) | (refine ⟨Or.inr trivial, ?_⟩) | (refine ⟨rfl, ?_⟩) | (refine ⟨?_, ?_⟩)))) (by dsimp only; rw [h00]; (repeat' (first | exact trivial | exact rfl | (refine ⟨Or.inl rfl, ?_⟩) | (refine ⟨Or.inr rfl, ?_⟩) | (refine ⟨Or.inr trivial, ?_⟩) | (refine ⟨rfl, ?_⟩) | (refine ⟨?_, ?_⟩)))) ?_
  intro ⟨mt, dn, cur⟩ ⟨hp, hdn⟩
  dsimp only at hp hdn ⊢
  have hn2 : ((dn ++ mt).map (·.1)).Nodup := (hp.map _).nodup_iff.2 hB
  have hn3 : (mt.map (·.1)).Nodup := by rw [List.map_append, List.nodup_append] at hn2; exact hn2.2.1
  repeat' (first | ((with_reducible refine gS ?_); refine Es_next 12 rfl rfl rfl rfl rfl rfl hkeys (mE_nodup hn3) (fun h0 => ?_) (fun pre k post h0 => ?_)) | ((with_reducible refine gA ?_); (first | refine AW_seq ?_ | refine AW_region ?_ | refine AW_regionD Try.mixed ?_ | refine AW_condT rfl ?_ | refine AW_condF rfl ?_ | (refine AW_condY rfl ?_ ?_; assumption) | (refine AW_condN rfl ?_ ?_; assumption) | (refine AW_cond rfl (fun hc => ?_) (fun hc => ?_) <;> try (exfalso; simp only [cmpL] at hc; omega)) | refine AW_block ?_ | refine AW_ret ?_ | refine AW_skip ?_ | refine AW_exit ?_)) | (first | ((with_reducible refine gS ?_); refine Es_s (T := Try.tab) rfl rfl rfl rfl ?_) | ((with_reducible refine gD ?_); refine Ed_s (T := Try.tab) rfl rfl rfl rfl ?_)) | ((first | ((with_reducible refine gS ?_); apply Es_q) | ((with_reducible refine gD ?_); apply Ed_q)); rfl; (first | rfl | (refine w_tt ?_; assumption) | (refine w_ff ?_; assumption)); (first | refine LStep_simp (T := Try.tab) rfl rfl | refine LStep_lenM (T := Try.tab) rfl rfl rfl rfl | (refine LStep_add rfl rfl rfl rfl ?_; (refine IntWalk.i64_in _ ?_; first | omega | (simp only [cmps] at *; omega))) | (refine LStep_sub rfl rfl rfl rfl ?_; (refine IntWalk.i64_in _ ?_; first | omega | (simp only [cmps] at *; omega))) | (refine LStep_mul rfl rfl rfl rfl ?_; (refine IntWalk.i64_in _ ?_; first | omega | (simp only [cmps] at *; omega))) | (refine LStep_conv (T := Try.tab) rfl rfl rfl rfl rfl ?_; (refine IntWalk.i64_in _ ?_; first | omega | (simp only [cmps] at *; omega))) | refine LStep_wrap (T := Try.tab) rfl rfl | (refine LStep_pickT rfl rfl ?_ rfl rfl; assumption) | (refine LStep_pickF rfl rfl ?_ rfl rfl; assumption) | (refine LStep_indexM (T := Try.tab) (c := ?_) rfl rfl rfl rfl rfl rfl ?_; rotate_left; assumption) | (refine LStep_index (T := Try.tab) (c := ?_) rfl rfl rfl rfl rfl rfl ?_ ?_; rotate_left; omega; (first | assumption | rfl)) | (refine LStep_indexA (T := Try.tab) (c := ?_) rfl rfl rfl rfl rfl rfl ?_ ?_; rotate_left; omega; (first | assumption | rfl)) | (refine LStep_byteM (T := Try.tab) (c := ?_) rfl rfl rfl rfl rfl ?_; rotate_left; assumption) | (refine LStep_byte (T := Try.tab) (c := ?_) rfl rfl rfl rfl rfl ?_ ?_; rotate_left; omega; (first | assumption | rfl)) | (refine LStep_partM (T := Try.tab) rfl rfl rfl rfl rfl rfl rfl ?_ ?_ ?_; omega; (first | omega | (simp only [List.length_map]; omega)); (first | omega | (simp only [List.length_map]; omega))) | (refine LStep_lit (T := Try.tab) rfl rfl rfl rfl rfl rfl rfl rfl ?_; (refine Nat.le_of_ble_eq_true ?_; rfl)) | (refine LStep_litA (T := Try.tab) rfl rfl rfl rfl rfl rfl rfl ?_; (refine Nat.le_of_ble_eq_true ?_; rfl)) | refine LStep_buildN (T := Try.tab) rfl rfl rfl rfl rfl rfl rfl)) | ((first | refine Es_skip rfl ?_ rfl ?_ | refine Ed_skip rfl ?_ rfl ?_); (first | rfl | (refine w_tf ?_; assumption) | (refine w_ft ?_; assumption))) | ((first | ((with_reducible refine gS ?_); apply Es_xs) | ((with_reducible refine gD ?_); apply Ed_xs)); rfl; (first | rfl | (refine w_tt ?_; assumption) | (refine w_ff ?_; assumption)); (first | refine LStep_boxN rfl rfl rfl rfl rfl rfl | refine LStep_box rfl rfl rfl rfl rfl | refine LStep_allocN (T := Try.tab) rfl rfl rfl rfl rfl rfl | refine LStep_makeMap (kt := 0) (et := 0) rfl rfl rfl rfl | refine LStep_makeMapN (T := Try.tab) rfl rfl rfl rfl rfl rfl); rfl) | ((first | ((with_reducible refine gS ?_); apply Es_xn) | ((with_reducible refine gD ?_); apply Ed_xn)); rfl; (first | rfl | (refine w_tt ?_; assumption) | (refine w_ff ?_; assumption)); (first | (refine LStep_storeN (T := Try.tab) rfl rfl rfl rfl rfl rfl rfl ?_ rfl; (refine Nat.le_of_ble_eq_true ?_; rfl)) | (refine LStep_store (T := Try.tab) rfl rfl rfl rfl rfl rfl rfl ?_; (refine Nat.le_of_ble_eq_true ?_; rfl))); rfl) | ((first | refine Es_split rfl ?_ (fun _ => ?_) (fun _ => ?_) | refine Ed_split rfl ?_ (fun _ => ?_) (fun _ => ?_)); ((fail_if_success (refine und_t ?_; assumption)); (fail_if_success (refine und_f ?_; assumption)); exact trivial)) | (with_reducible refine Es_nil ?_) | ((with_reducible refine Ed_nil ?_ ?_); kernel_rfl) | (with_reducible refine then_n ?_) | (with_reducible refine then_r ?_) | (with_reducible refine then_e ?_) | (with_reducible refine block_n ?_) | (with_reducible refine block_r ?_) | ((with_reducible refine block_e ?_ ?_); rfl) | ((with_reducible refine block_x ?_ ?_); rfl) | ((with_reducible refine gR ?_); first | refine ret1 rfl ?_ | refine ret2 rfl rfl ?_ | refine ret0 ?_ | refine end1 rfl ?_ | refine end0 ?_) | ((with_reducible refine gC ?_); first | refine retC1 rfl ?_ | refine endC1 rfl ?_) | ((with_reducible refine gRG ?_); first | refine retGa rfl ?_ | refine retGb rfl ?_ | refine retGc rfl ?_ | refine retG1 rfl rfl ?_ | refine endG1 rfl rfl ?_))
  · have hm0 : mt = [] := by
      cases mt with
      | nil => rfl
      | cons x r => simp [mE] at h0
    subst hm0
    rw [List.append_nil] at hp
    have hok : takeOk A B = true := List.all_eq_true.2 (fun p hp0 => decide_eq_true (hdn p (hp.mem_iff.2 hp0)))
    have hsub := subM_perm hp hB A
    have hndS : ((subM dn A).map (·.1)).Nodup := by rw [subM_keys]; exact hA
    have hndF : (((subM dn A).filter fun p => decide (p.2 ≠ 0)).map (·.1)).Nodup := (List.filter_sublist.map _).nodup hndS
    have hlF : ((subM dn A).filter fun p => decide (p.2 ≠ 0)).length ≤ 1048576 := by
      have h1 := List.length_filter_le (fun p : P2 => decide (p.2 ≠ 0)) (subM dn A)
      have h2 : (subM dn A).length = A.length := List.length_map _
      omega
    have cD := delF_ac (subM dn A) hndS
    have cR := rising_ac _ hndF hlF
    repeat' (first | ((with_reducible refine gA ?_); (first | refine AW_seq ?_ | refine AW_region ?_ | refine AW_regionD Try.mixed ?_ | refine AW_condT rfl ?_ | refine AW_condF rfl ?_ | (refine AW_condY rfl ?_ ?_; assumption) | (refine AW_condN rfl ?_ ?_; assumption) | (refine AW_cond rfl (fun hc => ?_) (fun hc => ?_) <;> try (exfalso; simp only [cmpL] at hc; omega)) | refine AW_block ?_ | refine AW_ret ?_ | refine AW_skip ?_ | refine AW_exit ?_)) | (first | ((with_reducible refine gS ?_); refine Es_s (T := Try.tab) rfl rfl rfl rfl ?_) | ((with_reducible refine gD ?_); refine Ed_s (T := Try.tab) rfl rfl rfl rfl ?_)) | ((first | ((with_reducible refine gS ?_); apply Es_xg) | ((with_reducible refine gD ?_); apply Ed_xg)); rfl; (first | rfl | (refine w_tt ?_; assumption) | (refine w_ff ?_; assumption)); (first | refine LStep_callHN [(1000, 10)] [] cD rfl rfl ⟨rfl, trivial⟩ rfl ⟨trivial, trivial⟩ rfl rfl | refine LStep_callHN [(1000, 10)] [] cR rfl rfl ⟨rfl, trivial⟩ rfl ⟨trivial, trivial⟩ rfl rfl); rfl) | ((first | ((with_reducible refine gS ?_); apply Es_q) | ((with_reducible refine gD ?_); apply Ed_q)); rfl; (first | rfl | (refine w_tt ?_; assumption) | (refine w_ff ?_; assumption)); (first | refine LStep_simp (T := Try.tab) rfl rfl | refine LStep_lenM (T := Try.tab) rfl rfl rfl rfl | (refine LStep_add rfl rfl rfl rfl ?_; (refine IntWalk.i64_in _ ?_; first | omega | (simp only [cmps] at *; omega))) | (refine LStep_sub rfl rfl rfl rfl ?_; (refine IntWalk.i64_in _ ?_; first | omega | (simp only [cmps] at *; omega))) | (refine LStep_mul rfl rfl rfl rfl ?_; (refine IntWalk.i64_in _ ?_; first | omega | (simp only [cmps] at *; omega))) | (refine LStep_conv (T := Try.tab) rfl rfl rfl rfl rfl ?_; (refine IntWalk.i64_in _ ?_; first | omega | (simp only [cmps] at *; omega))) | refine LStep_wrap (T := Try.tab) rfl rfl | (refine LStep_pickT rfl rfl ?_ rfl rfl; assumption) | (refine LStep_pickF rfl rfl ?_ rfl rfl; assumption) | (refine LStep_indexM (T := Try.tab) (c := ?_) rfl rfl rfl rfl rfl rfl ?_; rotate_left; assumption) | (refine LStep_index (T := Try.tab) (c := ?_) rfl rfl rfl rfl rfl rfl ?_ ?_; rotate_left; omega; (first | assumption | rfl)) | (refine LStep_indexA (T := Try.tab) (c := ?_) rfl rfl rfl rfl rfl rfl ?_ ?_; rotate_left; omega; (first | assumption | rfl)) | (refine LStep_byteM (T := Try.tab) (c := ?_) rfl rfl rfl rfl rfl ?_; rotate_left; assumption) | (refine LStep_byte (T := Try.tab) (c := ?_) rfl rfl rfl rfl rfl ?_ ?_; rotate_left; omega; (first | assumption | rfl)) | (refine LStep_partM (T := Try.tab) rfl rfl rfl rfl rfl rfl rfl ?_ ?_ ?_; omega; (first | omega | (simp only [List.length_map]; omega)); (first | omega | (simp only [List.length_map]; omega))) | (refine LStep_lit (T := Try.tab) rfl rfl rfl rfl rfl rfl rfl rfl ?_; (refine Nat.le_of_ble_eq_true ?_; rfl)) | (refine LStep_litA (T := Try.tab) rfl rfl rfl rfl rfl rfl rfl ?_; (refine Nat.le_of_ble_eq_true ?_; rfl)) | refine LStep_buildN (T := Try.tab) rfl rfl rfl rfl rfl rfl rfl)) | ((first | refine Es_skip rfl ?_ rfl ?_ | refine Ed_skip rfl ?_ rfl ?_); (first | rfl | (refine w_tf ?_; assumption) | (refine w_ft ?_; assumption))) | ((first | ((with_reducible refine gS ?_); apply Es_xs) | ((with_reducible refine gD ?_); apply Ed_xs)); rfl; (first | rfl | (refine w_tt ?_; assumption) | (refine w_ff ?_; assumption)); (first | refine LStep_boxN rfl rfl rfl rfl rfl rfl | refine LStep_box rfl rfl rfl rfl rfl | refine LStep_allocN (T := Try.tab) rfl rfl rfl rfl rfl rfl | refine LStep_makeMap (kt := 0) (et := 0) rfl rfl rfl rfl | refine LStep_makeMapN (T := Try.tab) rfl rfl rfl rfl rfl rfl); rfl) | ((first | ((with_reducible refine gS ?_); apply Es_xn) | ((with_reducible refine gD ?_); apply Ed_xn)); rfl; (first | rfl | (refine w_tt ?_; assumption) | (refine w_ff ?_; assumption)); (first | (refine LStep_storeN (T := Try.tab) rfl rfl rfl rfl rfl rfl rfl ?_ rfl; (refine Nat.le_of_ble_eq_true ?_; rfl)) | (refine LStep_store (T := Try.tab) rfl rfl rfl rfl rfl rfl rfl ?_; (refine Nat.le_of_ble_eq_true ?_; rfl))); rfl) | ((first | refine Es_split rfl ?_ (fun _ => ?_) (fun _ => ?_) | refine Ed_split rfl ?_ (fun _ => ?_) (fun _ => ?_)); ((fail_if_success (refine und_t ?_; assumption)); (fail_if_success (refine und_f ?_; assumption)); exact trivial)) | (with_reducible refine Es_nil ?_) | ((with_reducible refine Ed_nil ?_ ?_); kernel_rfl) | (with_reducible refine then_n ?_) | (with_reducible refine then_r ?_) | (with_reducible refine then_e ?_) | (with_reducible refine block_n ?_) | (with_reducible refine block_r ?_) | ((with_reducible refine block_e ?_ ?_); rfl) | ((with_reducible refine block_x ?_ ?_); rfl) | ((with_reducible refine gR ?_); first | refine ret1 rfl ?_ | refine ret2 rfl rfl ?_ | refine ret0 ?_ | refine end1 rfl ?_ | refine end0 ?_) | ((with_reducible refine gC ?_); first | refine retC1 rfl ?_ | refine endC1 rfl ?_) | ((with_reducible refine gRG ?_); first | refine retGa rfl ?_ | refine retGb rfl ?_ | refine retGc rfl ?_ | refine retG1 rfl rfl ?_ | refine endG1 rfl rfl ?_))
    rw [takeR, if_pos hok, takeS, ← hsub]
  · obtain ⟨a, p, b, rfl, rfl, rfl, rfl⟩ := todo_split h0
    have hpB : p ∈ B := hp.mem_iff.1 (by simp)
    have hmem : (Value.string p.1, AV.d (.sc (.int .i64 p.2))) ∈ mE B := List.mem_map.2 ⟨p, hpB, rfl⟩
    have hpos := bB p.1 p.2 ((getM_mem hB).2 hpB)
    have hnk : p.1 ∉ dn.map (·.1) := by
      rw [List.map_append, List.nodup_append] at hn2
      exact fun h => hn2.2.2 _ h _ (List.mem_map.2 ⟨p, by simp, rfl⟩) rfl
    have hgs := getM_sub p.1 dn A
    rw [getM_none hnk] at hgs
    have hfind := mE_find p.1 (subM dn A)
    rw [hgs] at hfind
    cases hg : getM p.1 A with
    | none =>
      have hno : takeOk A B = false := by
        rw [Bool.eq_false_iff]
        intro h
        have := of_decide_eq_true (List.all_eq_true.1 h p hpB)
        rw [hg, Option.getD_none] at this
        omega
      rw [hg, Option.map_none, Option.map_none] at hfind
      repeat' (first | ((with_reducible refine gRc ?_); refine AW_nilD 2 4 rfl ?_) | ((with_reducible refine gA ?_); (first | refine AW_seq ?_ | refine AW_region ?_ | refine AW_regionD Try.mixed ?_ | refine AW_condT rfl ?_ | refine AW_condF rfl ?_ | (refine AW_condY rfl ?_ ?_; assumption) | (refine AW_condN rfl ?_ ?_; assumption) | (refine AW_cond rfl (fun hc => ?_) (fun hc => ?_) <;> try (exfalso; simp only [cmpL] at hc; omega)) | refine AW_block ?_ | refine AW_ret ?_ | refine AW_skip ?_ | refine AW_exit ?_)) | (first | ((with_reducible refine gS ?_); refine Es_s (T := Try.tab) rfl rfl rfl rfl ?_) | ((with_reducible refine gD ?_); refine Ed_s (T := Try.tab) rfl rfl rfl rfl ?_)) | ((first | ((with_reducible refine gS ?_); apply Es_q) | ((with_reducible refine gD ?_); apply Ed_q)); rfl; (first | rfl | (refine w_tt ?_; assumption) | (refine w_ff ?_; assumption)); (first | refine LStep_entry (kav := .d (.sc (.string p.1))) 12 hmem rfl rfl rfl rfl hkeys (fun _ _ _ => .d _ _ (.sc _ rfl)) | (refine LStep_lookup0Z (T := Try.tab) rfl rfl rfl rfl rfl rfl rfl rfl rfl rfl ?_ ?_; exact mE_keyB _; exact hfind))) | ((first | ((with_reducible refine gS ?_); apply Es_q) | ((with_reducible refine gD ?_); apply Ed_q)); rfl; (first | rfl | (refine w_tt ?_; assumption) | (refine w_ff ?_; assumption)); (first | refine LStep_simp (T := Try.tab) rfl rfl | refine LStep_lenM (T := Try.tab) rfl rfl rfl rfl | (refine LStep_add rfl rfl rfl rfl ?_; (refine IntWalk.i64_in _ ?_; first | omega | (simp only [cmps] at *; omega))) | (refine LStep_sub rfl rfl rfl rfl ?_; (refine IntWalk.i64_in _ ?_; first | omega | (simp only [cmps] at *; omega))) | (refine LStep_mul rfl rfl rfl rfl ?_; (refine IntWalk.i64_in _ ?_; first | omega | (simp only [cmps] at *; omega))) | (refine LStep_conv (T := Try.tab) rfl rfl rfl rfl rfl ?_; (refine IntWalk.i64_in _ ?_; first | omega | (simp only [cmps] at *; omega))) | refine LStep_wrap (T := Try.tab) rfl rfl | (refine LStep_pickT rfl rfl ?_ rfl rfl; assumption) | (refine LStep_pickF rfl rfl ?_ rfl rfl; assumption) | (refine LStep_indexM (T := Try.tab) (c := ?_) rfl rfl rfl rfl rfl rfl ?_; rotate_left; assumption) | (refine LStep_index (T := Try.tab) (c := ?_) rfl rfl rfl rfl rfl rfl ?_ ?_; rotate_left; omega; (first | assumption | rfl)) | (refine LStep_indexA (T := Try.tab) (c := ?_) rfl rfl rfl rfl rfl rfl ?_ ?_; rotate_left; omega; (first | assumption | rfl)) | (refine LStep_byteM (T := Try.tab) (c := ?_) rfl rfl rfl rfl rfl ?_; rotate_left; assumption) | (refine LStep_byte (T := Try.tab) (c := ?_) rfl rfl rfl rfl rfl ?_ ?_; rotate_left; omega; (first | assumption | rfl)) | (refine LStep_partM (T := Try.tab) rfl rfl rfl rfl rfl rfl rfl ?_ ?_ ?_; omega; (first | omega | (simp only [List.length_map]; omega)); (first | omega | (simp only [List.length_map]; omega))) | (refine LStep_lit (T := Try.tab) rfl rfl rfl rfl rfl rfl rfl rfl ?_; (refine Nat.le_of_ble_eq_true ?_; rfl)) | (refine LStep_litA (T := Try.tab) rfl rfl rfl rfl rfl rfl rfl ?_; (refine Nat.le_of_ble_eq_true ?_; rfl)) | refine LStep_buildN (T := Try.tab) rfl rfl rfl rfl rfl rfl rfl)) | ((first | refine Es_skip rfl ?_ rfl ?_ | refine Ed_skip rfl ?_ rfl ?_); (first | rfl | (refine w_tf ?_; assumption) | (refine w_ft ?_; assumption))) | ((first | ((with_reducible refine gS ?_); apply Es_xs) | ((with_reducible refine gD ?_); apply Ed_xs)); rfl; (first | rfl | (refine w_tt ?_; assumption) | (refine w_ff ?_; assumption)); (first | refine LStep_boxN rfl rfl rfl rfl rfl rfl | refine LStep_box rfl rfl rfl rfl rfl | refine LStep_allocN (T := Try.tab) rfl rfl rfl rfl rfl rfl | refine LStep_makeMap (kt := 0) (et := 0) rfl rfl rfl rfl | refine LStep_makeMapN (T := Try.tab) rfl rfl rfl rfl rfl rfl); rfl) | ((first | ((with_reducible refine gS ?_); apply Es_xn) | ((with_reducible refine gD ?_); apply Ed_xn)); rfl; (first | rfl | (refine w_tt ?_; assumption) | (refine w_ff ?_; assumption)); (first | (refine LStep_storeN (T := Try.tab) rfl rfl rfl rfl rfl rfl rfl ?_ rfl; (refine Nat.le_of_ble_eq_true ?_; rfl)) | (refine LStep_store (T := Try.tab) rfl rfl rfl rfl rfl rfl rfl ?_; (refine Nat.le_of_ble_eq_true ?_; rfl))); rfl) | ((first | refine Es_split rfl ?_ (fun _ => ?_) (fun _ => ?_) | refine Ed_split rfl ?_ (fun _ => ?_) (fun _ => ?_)); ((fail_if_success (refine und_t ?_; assumption)); (fail_if_success (refine und_f ?_; assumption)); exact trivial)) | (with_reducible refine Es_nil ?_) | ((with_reducible refine Ed_nil ?_ ?_); kernel_rfl) | (with_reducible refine then_n ?_) | (with_reducible refine then_r ?_) | (with_reducible refine then_e ?_) | (with_reducible refine block_n ?_) | (with_reducible refine block_r ?_) | ((with_reducible refine block_e ?_ ?_); rfl) | ((with_reducible refine block_x ?_ ?_); rfl) | ((with_reducible refine gR ?_); first | refine ret1 rfl ?_ | refine ret2 rfl rfl ?_ | refine ret0 ?_ | refine end1 rfl ?_ | refine end0 ?_) | ((with_reducible refine gC ?_); first | refine retC1 rfl ?_ | refine endC1 rfl ?_) | ((with_reducible refine gRG ?_); first | refine retGa rfl ?_ | refine retGb rfl ?_ | refine retGc rfl ?_ | refine retG1 rfl rfl ?_ | refine endG1 rfl rfl ?_))
      all_goals simp only [cmps] at *
      all_goals first
        | (exfalso; omega)
        | (rw [takeR, if_neg (by rw [hno]; simp)])
    | some v =>
      have hv := bA p.1 v hg
      rw [hg, Option.map_some, Option.map_some, Option.getD_none, Int.sub_zero] at hfind
      have hset := setM_sub (n := p.2) hnk hA hg
      have hput := mE_set p.1 (v - p.2) (subM dn A)
      rw [hset] at hput
      repeat' (first | ((with_reducible refine gRc ?_); refine AW_nilD 2 4 rfl ?_) | ((with_reducible refine gA ?_); (first | refine AW_seq ?_ | refine AW_region ?_ | refine AW_regionD Try.mixed ?_ | refine AW_condT rfl ?_ | refine AW_condF rfl ?_ | (refine AW_condY rfl ?_ ?_; assumption) | (refine AW_condN rfl ?_ ?_; assumption) | (refine AW_cond rfl (fun hc => ?_) (fun hc => ?_) <;> try (exfalso; simp only [cmpL] at hc; omega)) | refine AW_block ?_ | refine AW_ret ?_ | refine AW_skip ?_ | refine AW_exit ?_)) | (first | ((with_reducible refine gS ?_); refine Es_s (T := Try.tab) rfl rfl rfl rfl ?_) | ((with_reducible refine gD ?_); refine Ed_s (T := Try.tab) rfl rfl rfl rfl ?_)) | ((first | ((with_reducible refine gS ?_); apply Es_q) | ((with_reducible refine gD ?_); apply Ed_q)); rfl; (first | rfl | (refine w_tt ?_; assumption) | (refine w_ff ?_; assumption)); (first | refine LStep_entry (kav := .d (.sc (.string p.1))) 12 hmem rfl rfl rfl rfl hkeys (fun _ _ _ => .d _ _ (.sc _ rfl)) | (refine LStep_lookup (T := Try.tab) (c := .d (.sc (.int .i64 v))) rfl rfl rfl rfl rfl rfl rfl rfl ?_ ?_; exact mE_keyB _; exact hfind))) | ((first | ((with_reducible refine gS ?_); apply Es_xn) | ((with_reducible refine gD ?_); apply Ed_xn)); rfl; (first | rfl | (refine w_tt ?_; assumption) | (refine w_ff ?_; assumption)); (refine LStep_mapUpdate (T := Try.tab) rfl rfl rfl rfl rfl rfl rfl rfl rfl ?_ rfl; exact mE_keyB _); rfl) | ((first | ((with_reducible refine gS ?_); apply Es_q) | ((with_reducible refine gD ?_); apply Ed_q)); rfl; (first | rfl | (refine w_tt ?_; assumption) | (refine w_ff ?_; assumption)); (first | refine LStep_simp (T := Try.tab) rfl rfl | refine LStep_lenM (T := Try.tab) rfl rfl rfl rfl | (refine LStep_add rfl rfl rfl rfl ?_; (refine IntWalk.i64_in _ ?_; first | omega | (simp only [cmps] at *; omega))) | (refine LStep_sub rfl rfl rfl rfl ?_; (refine IntWalk.i64_in _ ?_; first | omega | (simp only [cmps] at *; omega))) | (refine LStep_mul rfl rfl rfl rfl ?_; (refine IntWalk.i64_in _ ?_; first | omega | (simp only [cmps] at *; omega))) | (refine LStep_conv (T := Try.tab) rfl rfl rfl rfl rfl ?_; (refine IntWalk.i64_in _ ?_; first | omega | (simp only [cmps] at *; omega))) | refine LStep_wrap (T := Try.tab) rfl rfl | (refine LStep_pickT rfl rfl ?_ rfl rfl; assumption) | (refine LStep_pickF rfl rfl ?_ rfl rfl; assumption) | (refine LStep_indexM (T := Try.tab) (c := ?_) rfl rfl rfl rfl rfl rfl ?_; rotate_left; assumption) | (refine LStep_index (T := Try.tab) (c := ?_) rfl rfl rfl rfl rfl rfl ?_ ?_; rotate_left; omega; (first | assumption | rfl)) | (refine LStep_indexA (T := Try.tab) (c := ?_) rfl rfl rfl rfl rfl rfl ?_ ?_; rotate_left; omega; (first | assumption | rfl)) | (refine LStep_byteM (T := Try.tab) (c := ?_) rfl rfl rfl rfl rfl ?_; rotate_left; assumption) | (refine LStep_byte (T := Try.tab) (c := ?_) rfl rfl rfl rfl rfl ?_ ?_; rotate_left; omega; (first | assumption | rfl)) | (refine LStep_partM (T := Try.tab) rfl rfl rfl rfl rfl rfl rfl ?_ ?_ ?_; omega; (first | omega | (simp only [List.length_map]; omega)); (first | omega | (simp only [List.length_map]; omega))) | (refine LStep_lit (T := Try.tab) rfl rfl rfl rfl rfl rfl rfl rfl ?_; (refine Nat.le_of_ble_eq_true ?_; rfl)) | (refine LStep_litA (T := Try.tab) rfl rfl rfl rfl rfl rfl rfl ?_; (refine Nat.le_of_ble_eq_true ?_; rfl)) | refine LStep_buildN (T := Try.tab) rfl rfl rfl rfl rfl rfl rfl)) | ((first | refine Es_skip rfl ?_ rfl ?_ | refine Ed_skip rfl ?_ rfl ?_); (first | rfl | (refine w_tf ?_; assumption) | (refine w_ft ?_; assumption))) | ((first | ((with_reducible refine gS ?_); apply Es_xs) | ((with_reducible refine gD ?_); apply Ed_xs)); rfl; (first | rfl | (refine w_tt ?_; assumption) | (refine w_ff ?_; assumption)); (first | refine LStep_boxN rfl rfl rfl rfl rfl rfl | refine LStep_box rfl rfl rfl rfl rfl | refine LStep_allocN (T := Try.tab) rfl rfl rfl rfl rfl rfl | refine LStep_makeMap (kt := 0) (et := 0) rfl rfl rfl rfl | refine LStep_makeMapN (T := Try.tab) rfl rfl rfl rfl rfl rfl); rfl) | ((first | ((with_reducible refine gS ?_); apply Es_xn) | ((with_reducible refine gD ?_); apply Ed_xn)); rfl; (first | rfl | (refine w_tt ?_; assumption) | (refine w_ff ?_; assumption)); (first | (refine LStep_storeN (T := Try.tab) rfl rfl rfl rfl rfl rfl rfl ?_ rfl; (refine Nat.le_of_ble_eq_true ?_; rfl)) | (refine LStep_store (T := Try.tab) rfl rfl rfl rfl rfl rfl rfl ?_; (refine Nat.le_of_ble_eq_true ?_; rfl))); rfl) | ((first | refine Es_split rfl ?_ (fun _ => ?_) (fun _ => ?_) | refine Ed_split rfl ?_ (fun _ => ?_) (fun _ => ?_)); ((fail_if_success (refine und_t ?_; assumption)); (fail_if_success (refine und_f ?_; assumption)); exact trivial)) | (with_reducible refine Es_nil ?_) | ((with_reducible refine Ed_nil ?_ ?_); kernel_rfl) | (with_reducible refine then_n ?_) | (with_reducible refine then_r ?_) | (with_reducible refine then_e ?_) | (with_reducible refine block_n ?_) | (with_reducible refine block_r ?_) | ((with_reducible refine block_e ?_ ?_); rfl) | ((with_reducible refine block_x ?_ ?_); rfl) | ((with_reducible refine gR ?_); first | refine ret1 rfl ?_ | refine ret2 rfl rfl ?_ | refine ret0 ?_ | refine end1 rfl ?_ | refine end0 ?_) | ((with_reducible refine gC ?_); first | refine retC1 rfl ?_ | refine endC1 rfl ?_) | ((with_reducible refine gRG ?_); first | refine retGa rfl ?_ | refine retGb rfl ?_ | refine retGc rfl ?_ | refine retG1 rfl rfl ?_ | refine endG1 rfl rfl ?_))
      all_goals simp only [cmps] at *
      · have h : v < p.2 := by assumption
        have hno : takeOk A B = false := by
          rw [Bool.eq_false_iff]
          intro h2
          have := of_decide_eq_true (List.all_eq_true.1 h2 p hpB)
          rw [hg, Option.getD_some] at this
          omega
        rw [takeR, if_neg (by rw [hno]; simp)]
      · have h : p.2 ≤ v := by assumption
        refine ⟨(a ++ b, dn ++ [p], some (.string p.1)), ⟨?_, ?_⟩, by simp, by (repeat' (first | exact trivial | exact rfl | (refine ⟨Or.inl rfl, ?_⟩) | (refine ⟨Or.inr rfl, ?_⟩) | (refine ⟨Or.inr trivial, ?_⟩) | (refine ⟨rfl, ?_⟩) | (refine ⟨?_, ?_⟩))), by (repeat' (first | exact trivial | exact rfl | (refine ⟨Or.inl rfl, ?_⟩) | (refine ⟨Or.inr rfl, ?_⟩) | (refine ⟨Or.inr trivial, ?_⟩) | (refine ⟨rfl, ?_⟩) | (refine ⟨?_, ?_⟩))), ?_, by (repeat' (first | exact trivial | exact rfl | (refine ⟨Or.inl rfl, ?_⟩) | (refine ⟨Or.inr rfl, ?_⟩) | (refine ⟨Or.inr trivial, ?_⟩) | (refine ⟨rfl, ?_⟩) | (refine ⟨?_, ?_⟩)))⟩
        · dsimp only
          refine (List.Perm.trans ?_ hp)
          rw [List.append_assoc]
          exact List.Perm.append_left dn (List.perm_middle (a := p) (l₁ := a) (l₂ := b)).symm
        · dsimp only
          intro q hq
          rcases List.mem_append.1 hq with h1 | h1
          · exact hdn q h1
          · rw [List.mem_singleton] at h1
            subst h1
            rw [hg]; exact h
        · dsimp only; rw [← todo_join, ← hput]; (repeat' (first | exact trivial | exact rfl | (refine ⟨Or.inl rfl, ?_⟩) | (refine ⟨Or.inr rfl, ?_⟩) | (refine ⟨Or.inr trivial, ?_⟩) | (refine ⟨rfl, ?_⟩) | (refine ⟨?_, ?_⟩)))
end Go.Proofs.Ytjadbgmohmgaaaa
