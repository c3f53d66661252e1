import Derived.Test.YtnfgkccocknloaaJ9
import Derived.Test.YtnfgkccocknloaaG0
namespace Go.Proofs.Ytnfgkccocknloaa
open Go.SL

theorem pL_map2 (m : List P2) : m.map pL = (m.map toLot).map Lot.enc := by rw [List.map_map]; rfl
set_option maxRecDepth 20000 in
set_option maxHeartbeats 4000000 in
theorem orderSumsNo_ac (o : Ord) (dates : List Int) (parts : List (List Int)) (fo : o.Fit) (hf : CutFit o dates parts) (h0 : cutCode o dates parts ≠ 0) :
    AC Try.prog 8 [.agg o.cs, .d (.sl 1 (dates.map iE)), .d (.sl 1 (parts.map pE))] [] [] (fun r _ => r = .d (.sc (.bool true))) := by
  have h1 := hf.h1
  have h2 := hf.h2
  have ca := cut_ac o dates parts hf
  rw [cutR_no h0] at ca
  refine AC_enter Try.func8 rfl Try.ntmps8 (rv := [.tmp 6]) rfl rfl (by simp) (fun w X G => ?_)
  repeat' (first | ((with_reducible refine gA ?_); (first | refine AW_seq ?_ | refine AW_region ?_ | refine AW_regionD Try.mixed ?_ | refine AW_condT rfl ?_ | refine AW_condF rfl ?_ | (refine AW_condY rfl ?_ ?_; assumption) | (refine AW_condN rfl ?_ ?_; assumption) | (refine AW_cond rfl (fun hc => ?_) (fun hc => ?_) <;> try (exfalso; simp only [cmpL] at hc; omega)) | refine AW_block ?_ | refine AW_ret ?_ | refine AW_skip ?_ | refine AW_exit ?_)) | ((first | ((with_reducible refine gS ?_); apply Es_q) | ((with_reducible refine gD ?_); apply Ed_q)); rfl; (first | rfl | (refine w_tt ?_; assumption) | (refine w_ff ?_; assumption)); refine LStep_eqlT rfl rfl rfl rfl rfl) | (first | ((with_reducible refine gS ?_); refine Es_s (T := Try.tab) rfl rfl rfl rfl ?_) | ((with_reducible refine gD ?_); refine Ed_s (T := Try.tab) rfl rfl rfl rfl ?_)) | ((first | ((with_reducible refine gS ?_); apply Es_q) | ((with_reducible refine gD ?_); apply Ed_q)); rfl; (first | rfl | (refine w_tt ?_; assumption) | (refine w_ff ?_; assumption)); (first | refine LStep_call (awake_ac) rfl rfl rfl rfl | refine LStep_call (few0_ac _ fo) rfl rfl rfl rfl | refine LStep_call (ca) rfl rfl rfl rfl)) | ((first | ((with_reducible refine gS ?_); apply Es_q) | ((with_reducible refine gD ?_); apply Ed_q)); rfl; (first | rfl | (refine w_tt ?_; assumption) | (refine w_ff ?_; assumption)); (first | refine LStep_simp (T := Try.tab) rfl rfl | refine LStep_lenM (T := Try.tab) rfl rfl rfl rfl | (refine LStep_add rfl rfl rfl rfl ?_; (refine IntWalk.i64_in _ ?_; first | omega | (simp only [cmps] at *; omega))) | (refine LStep_sub rfl rfl rfl rfl ?_; (refine IntWalk.i64_in _ ?_; first | omega | (simp only [cmps] at *; omega))) | (refine LStep_mul rfl rfl rfl rfl ?_; (refine IntWalk.i64_in _ ?_; first | omega | (simp only [cmps] at *; omega))) | (refine LStep_conv (T := Try.tab) rfl rfl rfl rfl rfl ?_; (refine IntWalk.i64_in _ ?_; first | omega | (simp only [cmps] at *; omega))) | refine LStep_wrap (T := Try.tab) rfl rfl | (refine LStep_pickT rfl rfl ?_ rfl rfl; assumption) | (refine LStep_pickF rfl rfl ?_ rfl rfl; assumption) | (refine LStep_indexM (T := Try.tab) (c := ?_) rfl rfl rfl rfl rfl rfl ?_; rotate_left; assumption) | (refine LStep_index (T := Try.tab) (c := ?_) rfl rfl rfl rfl rfl rfl ?_ ?_; rotate_left; omega; (first | assumption | rfl)) | (refine LStep_indexA (T := Try.tab) (c := ?_) rfl rfl rfl rfl rfl rfl ?_ ?_; rotate_left; omega; (first | assumption | rfl)) | (refine LStep_byteM (T := Try.tab) (c := ?_) rfl rfl rfl rfl rfl ?_; rotate_left; assumption) | (refine LStep_byte (T := Try.tab) (c := ?_) rfl rfl rfl rfl rfl ?_ ?_; rotate_left; omega; (first | assumption | rfl)) | (refine LStep_partM (T := Try.tab) rfl rfl rfl rfl rfl rfl rfl ?_ ?_ ?_; omega; omega; omega) | (refine LStep_lit (T := Try.tab) rfl rfl rfl rfl rfl rfl rfl rfl ?_; (refine Nat.le_of_ble_eq_true ?_; rfl)) | (refine LStep_litA (T := Try.tab) rfl rfl rfl rfl rfl rfl rfl ?_; (refine Nat.le_of_ble_eq_true ?_; rfl)) | refine LStep_buildN (T := Try.tab) rfl rfl rfl rfl rfl rfl rfl)) | ((first | refine Es_skip rfl ?_ rfl ?_ | refine Ed_skip rfl ?_ rfl ?_); (first | rfl | (refine w_tf ?_; assumption) | (refine w_ft ?_; assumption))) | ((first | ((with_reducible refine gS ?_); apply Es_xs) | ((with_reducible refine gD ?_); apply Ed_xs)); rfl; (first | rfl | (refine w_tt ?_; assumption) | (refine w_ff ?_; assumption)); (first | refine LStep_boxN rfl rfl rfl rfl rfl rfl | refine LStep_box rfl rfl rfl rfl rfl | refine LStep_allocN (T := Try.tab) rfl rfl rfl rfl rfl rfl | refine LStep_makeMap (kt := 0) (et := 0) rfl rfl rfl rfl | refine LStep_makeMapN (T := Try.tab) rfl rfl rfl rfl rfl rfl); rfl) | ((first | ((with_reducible refine gS ?_); apply Es_xn) | ((with_reducible refine gD ?_); apply Ed_xn)); rfl; (first | rfl | (refine w_tt ?_; assumption) | (refine w_ff ?_; assumption)); (first | (refine LStep_storeN (T := Try.tab) rfl rfl rfl rfl rfl rfl rfl ?_ rfl; (refine Nat.le_of_ble_eq_true ?_; rfl)) | (refine LStep_store (T := Try.tab) rfl rfl rfl rfl rfl rfl rfl ?_; (refine Nat.le_of_ble_eq_true ?_; rfl))); rfl) | ((first | refine Es_split rfl ?_ (fun _ => ?_) (fun _ => ?_) | refine Ed_split rfl ?_ (fun _ => ?_) (fun _ => ?_)); ((fail_if_success (refine und_t ?_; assumption)); (fail_if_success (refine und_f ?_; assumption)); exact trivial)) | (with_reducible refine Es_nil ?_) | ((with_reducible refine Ed_nil ?_ ?_); kernel_rfl) | (with_reducible refine then_n ?_) | (with_reducible refine then_r ?_) | (with_reducible refine then_e ?_) | (with_reducible refine block_n ?_) | (with_reducible refine block_r ?_) | ((with_reducible refine block_e ?_ ?_); rfl) | ((with_reducible refine block_x ?_ ?_); rfl) | ((with_reducible refine gR ?_); first | refine ret1 rfl ?_ | refine ret2 rfl rfl ?_ | refine ret0 ?_ | refine end1 rfl ?_ | refine end0 ?_))
  all_goals simp only [cmps] at *
  all_goals first
    | rfl
    | (exfalso; omega)
    | skip
theorem valL_bounds (o : Ord) : ∀ (r : List Lot) (a : Int), 0 ≤ a → a ≤ 1099511627776 → (∀ x ∈ r, 0 ≤ x.count * priceOf o x.good) → 0 ≤ (valL o r a).1 ∧ (valL o r a).1 ≤ 1099511627776
  | [], a, h1, h2, _ => ⟨h1, h2⟩
  | x :: r, a, h1, h2, h => by
    have hx := h x (by simp)
    rw [valL]
    split
    · exact ⟨Int.le_refl _, by decide⟩
    · exact valL_bounds o r _ (by omega) (by omega) (fun y hy => h y (by simp [hy]))
theorem wAll_drop {o : Ord} {l : List Cons} {k : Nat} {c : Cons} (h : l.drop k = c :: l.drop (k + 1)) : wAll o (l.drop k) = worth o c.lots + wAll o (l.drop (k + 1)) := by rw [h]; rfl
theorem worth_nonneg (o : Ord) : ∀ r : List Lot, (∀ x ∈ r, 0 ≤ x.count * priceOf o x.good) → 0 ≤ worth o r
  | [], _ => Int.le_refl _
  | x :: r, h => by
    have h1 := h x (by simp)
    have h2 := worth_nonneg o r (fun y hy => h y (by simp [hy]))
    rw [worth]
    omega
theorem wAll_nonneg (o : Ord) : ∀ l : List Cons, (∀ c ∈ l, ∀ x ∈ c.lots, 0 ≤ x.count * priceOf o x.good) → 0 ≤ wAll o l
  | [], _ => Int.le_refl _
  | c :: l, h => by
    have h1 := worth_nonneg o c.lots (h c (by simp))
    have h2 := wAll_nonneg o l (fun d hd => h d (by simp [hd]))
    rw [wAll]
    omega
end Go.Proofs.Ytnfgkccocknloaa
namespace Go.Proofs.Ytnfgkccocknloaa
open Go.SL

theorem sentB : ∀ {l : List Cons}, (∀ c ∈ l, c.lots.length ≤ 64) → (sentL l).length ≤ l.length * 64
  | [], _ => by simp [sentL]
  | c :: l, h => by
    have ih := sentB (l := l) (fun d hd => h d (by simp [hd]))
    have h1 := h c (by simp)
    have e : sentL (c :: l) = c.lots ++ sentL l := rfl
    rw [e, List.length_append, List.length_cons]
    omega
theorem cutAll_length (o : Ord) : ∀ (ds : List Int) (ps : List (List Int)) (i : Nat), ps.length = ds.length → (cutAll o ds ps i).length = ds.length
  | [], _, _, _ => by simp [cutAll]
  | _ :: _, [], _, h => by simp at h
  | d :: ds, p :: ps, i, h => by rw [cutAll, List.length_cons, List.length_cons, cutAll_length o ds ps (i + 1) (by simpa using h)]
theorem worth_le_wAll {o : Ord} {c : Cons} : ∀ {l : List Cons}, (∀ c ∈ l, ∀ x ∈ c.lots, 0 ≤ x.count * priceOf o x.good) → c ∈ l → worth o c.lots ≤ wAll o l
  | [], _, h => by cases h
  | d :: l, hp, h => by
    have h1 := worth_nonneg o d.lots (hp d (by simp))
    have h2 := wAll_nonneg o l (fun e he => hp e (by simp [he]))
    rw [wAll]
    rcases List.mem_cons.1 h with rfl | h
    · omega
    · have := worth_le_wAll (l := l) (fun e he => hp e (by simp [he])) h
      omega
theorem pos_cut {o : Ord} {dates : List Int} {parts : List (List Int)} (h : cutCode o dates parts = 0) : ∀ c ∈ cutAll o dates parts 0, ∀ x ∈ c.lots, 0 ≤ x.count * priceOf o x.good := by
  intro c hc x hx
  obtain ⟨e1, _⟩ := code_of h
  obtain ⟨y, hy, g1, g2, _⟩ := (lot_cut h hc).2 x hx
  have := ((may_lines e1).2 y hy).2.2.2.1
  rw [g1, price_at (may_nodup e1) y hy]
  exact Int.mul_nonneg (by omega) this
theorem lots_ne {o : Ord} {dates : List Int} {parts : List (List Int)} (h : cutCode o dates parts = 0) {c : Cons} (hc : c ∈ cutAll o dates parts 0) : c.lots ≠ [] := by
  obtain ⟨_, e2, _, e4, _⟩ := code_of h
  obtain ⟨_, _, _, _, e6⟩ := pMay_of e2
  obtain ⟨_, p, hp, h2⟩ := cutAll_mem hc
  rw [h2]
  refine lotsOf_ne (e6 p hp).1 (fun n hn => (e6 p hp).2 n hn) ?_
  rw [List.any_eq_false] at e4
  simpa using e4 p hp
theorem vals_cut {o : Ord} {dates : List Int} {parts : List (List Int)} (h : cutCode o dates parts = 0) : ∀ c ∈ cutAll o dates parts 0, ∃ v e : Int, pairR (valP o c) = .tup [.d (.sc (.int .i64 v)), .d (.sc (.int .i64 e))] ∧ 0 ≤ v ∧ v ≤ 1099511627776 ∧ (o.totalP.2 = 0 → e = 0 ∧ v = worth o c.lots) := by
  intro c hc
  have hp := pos_cut h
  obtain ⟨e1, _⟩ := code_of h
  have hv : valP o c = valL o c.lots 0 := by
    rw [valP, if_pos (chk_cut h (fun d hd => by rw [List.mem_singleton] at hd; subst hd; exact hc))]
  have hb := valL_bounds o c.lots 0 (by omega) (by omega) (hp c hc)
  refine ⟨(valL o c.lots 0).1, (valL o c.lots 0).2, by rw [hv]; rfl, hb.1, hb.2, fun h0 => ?_⟩
  have hw := worth_cut h (price_at (may_nodup e1))
  have hle := worth_le_wAll hp hc
  have ht : ¬ 1099511627776 < sumC o.lines 0 := by
    intro ht
    rw [Ord.totalP, if_pos e1, if_pos ht] at h0
    cases h0
  rw [valL_sum o c.lots 0 (hp c hc) (by omega)]
  exact ⟨rfl, by dsimp only; omega⟩
theorem tot_cut {o : Ord} {dates : List Int} {parts : List (List Int)} (h : cutCode o dates parts = 0) : o.totalP.2 = 0 → wAll o (cutAll o dates parts 0) = o.totalP.1 := by
  intro h0
  obtain ⟨e1, _⟩ := code_of h
  rw [worth_cut h (price_at (may_nodup e1))]
  unfold Ord.totalP at h0 ⊢
  rw [if_pos e1] at h0 ⊢
  split at h0
  · cases h0
  · rename_i ht; rw [if_neg ht]
set_option maxRecDepth 20000 in
set_option maxHeartbeats 8000000 in
theorem orderSumsYes_ac (o : Ord) (dates : List Int) (parts : List (List Int)) (fo : o.Fit) (hf : CutFit o dates parts) (h0 : cutCode o dates parts = 0) :
    AC Try.prog 8 [.agg o.cs, .d (.sl 1 (dates.map iE)), .d (.sl 1 (parts.map pE))] [] [] (fun r _ => r = .d (.sc (.bool true))) := by
  have h1 := hf.h1
  have h2 := hf.h2
  have h3 := hf.h3
  have ca := cut_ac o dates parts hf
  rw [cutR_yes h0] at ca
  obtain ⟨e1, e2, _⟩ := code_of h0
  obtain ⟨e3, _, hp64, _⟩ := pMay_of e2
  obtain ⟨hl64, hli⟩ := may_lines e1
  have hcnt : ∀ y ∈ o.lines, y.count ≤ 1048576 := fun y hy => (hli y hy).2.2.1
  have hcl := cutAll_len o dates parts 0
  have hcd := cutAll_length o dates parts 0 e3
  have hchk := chk_cut (l := cutAll o dates parts 0) h0 (fun c hc => hc)
  have hsum := cut_sums h0
  have hlot := fun c hc => lot_cut (c := c) h0 hc
  have hne := fun c hc => lots_ne (c := c) h0 hc
  have hnum := fun k c hc => cutAll_at (o := o) (c := c) (ds := dates) (ps := parts) (i := 0) (k := k) hc
  have hval := vals_cut h0
  have htot := tot_cut h0
  have tA := (total_ac o).mono (fun _ _ e => e.trans (totalR_pair o))
  have htp : pairR o.totalP = .tup [.d (.sc (.int .i64 o.totalP.1)), .d (.sc (.int .i64 o.totalP.2))] := rfl
  rw [htp] at tA
  generalize o.totalP.1 = TT at tA htot
  generalize o.totalP.2 = F at tA htot hval
  generalize cutAll o dates parts 0 = CS at ca hcl hcd hchk hsum hlot hne hnum hval htot
  clear htp h0 e1 e2 hli
  have hcs : CS.length ≤ 64 := by omega
  have hls : ∀ c ∈ CS, c.lots.length ≤ 64 := fun c hc => by have := hcl.2 c hc; omega
  have hSG := sentB (l := CS) hls
  have cl := left_ac o CS ⟨by omega, fun c hc => by have := hls c hc; omega⟩ hf.h3 (by omega)
  obtain ⟨t1, t2⟩ := take_eq (a := ordL o.lines) (b := sentL CS) (c := []) (fun g => by rw [← hsum g]; simp [posSum])
  have hnil : sortM (cntM []) = [] := by simp [sortM, cntM]
  rw [leftV, if_pos hchk, if_pos t1, t2, hnil] at cl
  have cj1 := join_ac (sentL CS) ⟨by omega, fun x hx => by
    obtain ⟨c, hc, hxc⟩ := List.mem_flatMap.1 hx
    obtain ⟨y, hy, _, _, g3⟩ := (hlot c hc).2 x hxc
    have := hcnt y hy
    omega⟩
  have cj2 := join_ac (ordL o.lines) ⟨by unfold ordL; rw [List.length_map]; omega, fun x hx => by
    obtain ⟨y, hy, rfl⟩ := List.mem_map.1 hx
    have := hcnt y hy
    dsimp only
    omega⟩
  rw [← join_eq hsum, pL_map2] at cj2
  rw [pL_map2] at cj1
  have hJl : ((sortM (cntM (sentL CS))).map toLot).length ≤ 140737488351232 := by
    rw [List.length_map, (sortM_perm _).length_eq]
    have := (cntM_nodup (sentL CS)).2
    omega
  have cs := (sameLots_ac _ ((sortM (cntM (sentL CS))).map toLot) hJl).mono (fun _ _ e => e.trans (by rw [lleq_refl] : _ = AV.d (.sc (.bool true))))
  generalize ((sortM (cntM (sentL CS))).map toLot) = J at cj1 cj2 cs
  clear hchk hsum t1 t2 hSG hnil hJl hcnt
  refine AC_enter Try.func8 rfl Try.ntmps8 (rv := [.tmp 6]) rfl rfl (by simp) (fun w X G => ?_)
  repeat' (first | ((with_reducible refine gA ?_); (first | refine AW_seq ?_ | refine AW_region ?_ | refine AW_regionD Try.mixed ?_ | refine AW_condT rfl ?_ | refine AW_condF rfl ?_ | (refine AW_condY rfl ?_ ?_; assumption) | (refine AW_condN rfl ?_ ?_; assumption) | (refine AW_cond rfl (fun hc => ?_) (fun hc => ?_) <;> try (exfalso; simp only [cmpL] at hc; omega)) | refine AW_block ?_ | refine AW_ret ?_ | refine AW_skip ?_ | refine AW_exit ?_)) | ((first | ((with_reducible refine gS ?_); apply Es_q) | ((with_reducible refine gD ?_); apply Ed_q)); rfl; (first | rfl | (refine w_tt ?_; assumption) | (refine w_ff ?_; assumption)); refine LStep_neqF rfl rfl rfl rfl rfl) | (first | ((with_reducible refine gS ?_); refine Es_s (T := Try.tab) rfl rfl rfl rfl ?_) | ((with_reducible refine gD ?_); refine Ed_s (T := Try.tab) rfl rfl rfl rfl ?_)) | ((first | ((with_reducible refine gS ?_); apply Es_q) | ((with_reducible refine gD ?_); apply Ed_q)); rfl; (first | rfl | (refine w_tt ?_; assumption) | (refine w_ff ?_; assumption)); (first | refine LStep_call (awake_ac) rfl rfl rfl rfl | refine LStep_call (few0_ac _ fo) rfl rfl rfl rfl | refine LStep_call (ca) rfl rfl rfl rfl | refine LStep_call (tA) rfl rfl rfl rfl | refine LStep_call (cl) rfl rfl rfl rfl)) | ((first | ((with_reducible refine gS ?_); apply Es_q) | ((with_reducible refine gD ?_); apply Ed_q)); rfl; (first | rfl | (refine w_tt ?_; assumption) | (refine w_ff ?_; assumption)); (first | refine LStep_simp (T := Try.tab) rfl rfl | refine LStep_lenM (T := Try.tab) rfl rfl rfl rfl | (refine LStep_add rfl rfl rfl rfl ?_; (refine IntWalk.i64_in _ ?_; first | omega | (simp only [cmps] at *; omega))) | (refine LStep_sub rfl rfl rfl rfl ?_; (refine IntWalk.i64_in _ ?_; first | omega | (simp only [cmps] at *; omega))) | (refine LStep_mul rfl rfl rfl rfl ?_; (refine IntWalk.i64_in _ ?_; first | omega | (simp only [cmps] at *; omega))) | (refine LStep_conv (T := Try.tab) rfl rfl rfl rfl rfl ?_; (refine IntWalk.i64_in _ ?_; first | omega | (simp only [cmps] at *; omega))) | refine LStep_wrap (T := Try.tab) rfl rfl | (refine LStep_pickT rfl rfl ?_ rfl rfl; assumption) | (refine LStep_pickF rfl rfl ?_ rfl rfl; assumption) | (refine LStep_indexM (T := Try.tab) (c := ?_) rfl rfl rfl rfl rfl rfl ?_; rotate_left; assumption) | (refine LStep_index (T := Try.tab) (c := ?_) rfl rfl rfl rfl rfl rfl ?_ ?_; rotate_left; omega; (first | assumption | rfl)) | (refine LStep_indexA (T := Try.tab) (c := ?_) rfl rfl rfl rfl rfl rfl ?_ ?_; rotate_left; omega; (first | assumption | rfl)) | (refine LStep_byteM (T := Try.tab) (c := ?_) rfl rfl rfl rfl rfl ?_; rotate_left; assumption) | (refine LStep_byte (T := Try.tab) (c := ?_) rfl rfl rfl rfl rfl ?_ ?_; rotate_left; omega; (first | assumption | rfl)) | (refine LStep_partM (T := Try.tab) rfl rfl rfl rfl rfl rfl rfl ?_ ?_ ?_; omega; omega; omega) | (refine LStep_lit (T := Try.tab) rfl rfl rfl rfl rfl rfl rfl rfl ?_; (refine Nat.le_of_ble_eq_true ?_; rfl)) | (refine LStep_litA (T := Try.tab) rfl rfl rfl rfl rfl rfl rfl ?_; (refine Nat.le_of_ble_eq_true ?_; rfl)) | refine LStep_buildN (T := Try.tab) rfl rfl rfl rfl rfl rfl rfl)) | ((first | refine Es_skip rfl ?_ rfl ?_ | refine Ed_skip rfl ?_ rfl ?_); (first | rfl | (refine w_tf ?_; assumption) | (refine w_ft ?_; assumption))) | ((first | ((with_reducible refine gS ?_); apply Es_xs) | ((with_reducible refine gD ?_); apply Ed_xs)); rfl; (first | rfl | (refine w_tt ?_; assumption) | (refine w_ff ?_; assumption)); (first | refine LStep_boxN rfl rfl rfl rfl rfl rfl | refine LStep_box rfl rfl rfl rfl rfl | refine LStep_allocN (T := Try.tab) rfl rfl rfl rfl rfl rfl | refine LStep_makeMap (kt := 0) (et := 0) rfl rfl rfl rfl | refine LStep_makeMapN (T := Try.tab) rfl rfl rfl rfl rfl rfl); rfl) | ((first | ((with_reducible refine gS ?_); apply Es_xn) | ((with_reducible refine gD ?_); apply Ed_xn)); rfl; (first | rfl | (refine w_tt ?_; assumption) | (refine w_ff ?_; assumption)); (first | (refine LStep_storeN (T := Try.tab) rfl rfl rfl rfl rfl rfl rfl ?_ rfl; (refine Nat.le_of_ble_eq_true ?_; rfl)) | (refine LStep_store (T := Try.tab) rfl rfl rfl rfl rfl rfl rfl ?_; (refine Nat.le_of_ble_eq_true ?_; rfl))); rfl) | ((first | refine Es_split rfl ?_ (fun _ => ?_) (fun _ => ?_) | refine Ed_split rfl ?_ (fun _ => ?_) (fun _ => ?_)); ((fail_if_success (refine und_t ?_; assumption)); (fail_if_success (refine und_f ?_; assumption)); exact trivial)) | (with_reducible refine Es_nil ?_) | ((with_reducible refine Ed_nil ?_ ?_); kernel_rfl) | (with_reducible refine then_n ?_) | (with_reducible refine then_r ?_) | (with_reducible refine then_e ?_) | (with_reducible refine block_n ?_) | (with_reducible refine block_r ?_) | ((with_reducible refine block_e ?_ ?_); rfl) | ((with_reducible refine block_x ?_ ?_); rfl) | ((with_reducible refine gR ?_); first | refine ret1 rfl ?_ | refine ret2 rfl rfl ?_ | refine ret0 ?_ | refine end1 rfl ?_ | refine end0 ?_))
  all_goals simp only [cmps] at *
  all_goals first
    | rfl
    | (exfalso; omega)
    | skip
  clear ca tA cl
  refine AW_openNil (t := 13) (id := 2000) (e := 47) (sz := 2) rfl rfl rfl rfl ?_
  refine AW_openNil (t := 14) (id := 2001) (e := 47) (sz := 2) rfl rfl rfl rfl ?_
  refine AW_forE (S := Nat × Int) (fun s => s.1 ≤ CS.length ∧ 0 ≤ s.2 ∧ s.2 ≤ (s.1 : Int) * 1099511627776 ∧ (F = 0 → s.2 + wAll o (CS.drop s.1) = TT))
    (fun s => [(16, .d (.sc (.int .i64 (s.1 : Nat)))), (13, .own 2000 ((sentL (CS.take s.1)).map Lot.enc).length), (15, .d (.sc (.int .i64 s.2)))])
    (fun s => [(2000, some (.arr 47 2 ((sentL (CS.take s.1)).map Lot.enc)))]) (fun s => CS.length - s.1) (0, 0) ⟨by omega, by omega, by simp, fun h => by simpa using htot h⟩ (by (repeat' (first | exact trivial | exact rfl | (refine ⟨Or.inl rfl, ?_⟩) | (refine ⟨Or.inr rfl, ?_⟩) | (refine ⟨rfl, ?_⟩) | (refine ⟨?_, ?_⟩)))) (by (repeat' (first | exact trivial | exact rfl | (refine ⟨Or.inl rfl, ?_⟩) | (refine ⟨Or.inr rfl, ?_⟩) | (refine ⟨rfl, ?_⟩) | (refine ⟨?_, ?_⟩)))) ?_
  intro ⟨k, sum⟩ ⟨hk, hs0, hs1, hsT⟩
  dsimp only at hk hs0 hs1 hsT ⊢
  by_cases hlt : k < CS.length
  · obtain ⟨c, hcc, hdc⟩ := drop_at hlt
    have hcm := List.mem_of_getElem? hcc
    have hcl2 := hls c hcm
    obtain ⟨v, e, hve, v0, v1, hF⟩ := hval c hcm
    have cv := value_ac o c (by omega) h3
    rw [hve] at cv
    have hn := hnum k c hcc
    have ho := (hlot c hcm).1
    have hlen : (c.lots).length ≠ 0 := fun h => hne c hcm (List.eq_nil_of_length_eq_zero h)
    have hstep := wAll_drop (o := o) hdc
    have htk : sentL (CS.take (k + 1)) = sentL (CS.take k) ++ c.lots := by rw [take_at hcc, sentL_snoc]
    have hb := sentB (l := CS.take k) (fun d hd => hls d (List.mem_of_mem_take hd))
    rw [List.length_take] at hb
    clear hval hnum hlot hne hls htot
    repeat' (first | ((with_reducible refine gA ?_); (first | refine AW_seq ?_ | refine AW_region ?_ | refine AW_regionD Try.mixed ?_ | refine AW_condT rfl ?_ | refine AW_condF rfl ?_ | (refine AW_condY rfl ?_ ?_; assumption) | (refine AW_condN rfl ?_ ?_; assumption) | (refine AW_cond rfl (fun hc => ?_) (fun hc => ?_) <;> try (exfalso; simp only [cmpL] at hc; omega)) | refine AW_block ?_ | refine AW_ret ?_ | refine AW_skip ?_ | refine AW_exit ?_)) | (first | ((with_reducible refine gS ?_); refine Es_s (T := Try.tab) rfl rfl rfl rfl ?_) | ((with_reducible refine gD ?_); refine Ed_s (T := Try.tab) rfl rfl rfl rfl ?_)) | ((first | ((with_reducible refine gS ?_); apply Es_q) | ((with_reducible refine gD ?_); apply Ed_q)); rfl; (first | rfl | (refine w_tt ?_; assumption) | (refine w_ff ?_; assumption)); refine LStep_call (cv) rfl rfl rfl rfl) | ((first | ((with_reducible refine gS ?_); apply Es_xs) | ((with_reducible refine gD ?_); apply Ed_xs)); rfl; (first | rfl | (refine w_tt ?_; assumption) | (refine w_ff ?_; assumption)); (refine LStep_append (T := Try.tab) rfl rfl rfl rfl rfl rfl rfl rfl rfl rfl ?_ ?_ ?_; rfl; (rw [List.length_map, List.length_map]; omega); (unfold maxLen; rw [List.length_map, List.length_map]; omega)); rfl) | ((first | ((with_reducible refine gS ?_); apply Es_q) | ((with_reducible refine gD ?_); apply Ed_q)); rfl; (first | rfl | (refine w_tt ?_; assumption) | (refine w_ff ?_; assumption)); (first | refine LStep_simp (T := Try.tab) rfl rfl | refine LStep_lenM (T := Try.tab) rfl rfl rfl rfl | (refine LStep_add rfl rfl rfl rfl ?_; (refine IntWalk.i64_in _ ?_; first | omega | (simp only [cmps] at *; omega))) | (refine LStep_sub rfl rfl rfl rfl ?_; (refine IntWalk.i64_in _ ?_; first | omega | (simp only [cmps] at *; omega))) | (refine LStep_mul rfl rfl rfl rfl ?_; (refine IntWalk.i64_in _ ?_; first | omega | (simp only [cmps] at *; omega))) | (refine LStep_conv (T := Try.tab) rfl rfl rfl rfl rfl ?_; (refine IntWalk.i64_in _ ?_; first | omega | (simp only [cmps] at *; omega))) | refine LStep_wrap (T := Try.tab) rfl rfl | (refine LStep_pickT rfl rfl ?_ rfl rfl; assumption) | (refine LStep_pickF rfl rfl ?_ rfl rfl; assumption) | (refine LStep_indexM (T := Try.tab) (c := ?_) rfl rfl rfl rfl rfl rfl ?_; rotate_left; assumption) | (refine LStep_index (T := Try.tab) (c := ?_) rfl rfl rfl rfl rfl rfl ?_ ?_; rotate_left; omega; (first | assumption | rfl)) | (refine LStep_indexA (T := Try.tab) (c := ?_) rfl rfl rfl rfl rfl rfl ?_ ?_; rotate_left; omega; (first | assumption | rfl)) | (refine LStep_byteM (T := Try.tab) (c := ?_) rfl rfl rfl rfl rfl ?_; rotate_left; assumption) | (refine LStep_byte (T := Try.tab) (c := ?_) rfl rfl rfl rfl rfl ?_ ?_; rotate_left; omega; (first | assumption | rfl)) | (refine LStep_partM (T := Try.tab) rfl rfl rfl rfl rfl rfl rfl ?_ ?_ ?_; omega; omega; omega) | (refine LStep_lit (T := Try.tab) rfl rfl rfl rfl rfl rfl rfl rfl ?_; (refine Nat.le_of_ble_eq_true ?_; rfl)) | (refine LStep_litA (T := Try.tab) rfl rfl rfl rfl rfl rfl rfl ?_; (refine Nat.le_of_ble_eq_true ?_; rfl)) | refine LStep_buildN (T := Try.tab) rfl rfl rfl rfl rfl rfl rfl)) | ((first | refine Es_skip rfl ?_ rfl ?_ | refine Ed_skip rfl ?_ rfl ?_); (first | rfl | (refine w_tf ?_; assumption) | (refine w_ft ?_; assumption))) | ((first | ((with_reducible refine gS ?_); apply Es_xs) | ((with_reducible refine gD ?_); apply Ed_xs)); rfl; (first | rfl | (refine w_tt ?_; assumption) | (refine w_ff ?_; assumption)); (first | refine LStep_boxN rfl rfl rfl rfl rfl rfl | refine LStep_box rfl rfl rfl rfl rfl | refine LStep_allocN (T := Try.tab) rfl rfl rfl rfl rfl rfl | refine LStep_makeMap (kt := 0) (et := 0) rfl rfl rfl rfl | refine LStep_makeMapN (T := Try.tab) rfl rfl rfl rfl rfl rfl); rfl) | ((first | ((with_reducible refine gS ?_); apply Es_xn) | ((with_reducible refine gD ?_); apply Ed_xn)); rfl; (first | rfl | (refine w_tt ?_; assumption) | (refine w_ff ?_; assumption)); (first | (refine LStep_storeN (T := Try.tab) rfl rfl rfl rfl rfl rfl rfl ?_ rfl; (refine Nat.le_of_ble_eq_true ?_; rfl)) | (refine LStep_store (T := Try.tab) rfl rfl rfl rfl rfl rfl rfl ?_; (refine Nat.le_of_ble_eq_true ?_; rfl))); rfl) | ((first | refine Es_split rfl ?_ (fun _ => ?_) (fun _ => ?_) | refine Ed_split rfl ?_ (fun _ => ?_) (fun _ => ?_)); ((fail_if_success (refine und_t ?_; assumption)); (fail_if_success (refine und_f ?_; assumption)); exact trivial)) | (with_reducible refine Es_nil ?_) | ((with_reducible refine Ed_nil ?_ ?_); kernel_rfl) | (with_reducible refine then_n ?_) | (with_reducible refine then_r ?_) | (with_reducible refine then_e ?_) | (with_reducible refine block_n ?_) | (with_reducible refine block_r ?_) | ((with_reducible refine block_e ?_ ?_); rfl) | ((with_reducible refine block_x ?_ ?_); rfl) | ((with_reducible refine gR ?_); first | refine ret1 rfl ?_ | refine ret2 rfl rfl ?_ | refine ret0 ?_ | refine end1 rfl ?_ | refine end0 ?_))
    all_goals simp only [cmps] at *
    all_goals first
      | (exfalso; omega)
      | (exfalso; simp_all; done)
      | skip
    all_goals
      refine ⟨(k + 1, sum + v), ⟨by dsimp only; omega, by dsimp only; omega, by dsimp only; omega, fun h => ?_⟩, by dsimp only; omega, ?_, by (repeat' (first | exact trivial | exact rfl | (refine ⟨Or.inl rfl, ?_⟩) | (refine ⟨Or.inr rfl, ?_⟩) | (refine ⟨rfl, ?_⟩) | (refine ⟨?_, ?_⟩))), ?_, by (repeat' (first | exact trivial | exact rfl | (refine ⟨Or.inl rfl, ?_⟩) | (refine ⟨Or.inr rfl, ?_⟩) | (refine ⟨rfl, ?_⟩) | (refine ⟨?_, ?_⟩)))⟩
      · have := hsT h
        have := hF h
        dsimp only
        omega
      all_goals ((try dsimp only); rw [htk, List.map_append]; (repeat' (first | exact trivial | exact rfl | (refine ⟨Or.inl rfl, ?_⟩) | (refine ⟨Or.inr rfl, ?_⟩) | (refine ⟨rfl, ?_⟩) | (refine ⟨?_, ?_⟩))))
  · have : k = CS.length := by omega
    subst this
    rw [List.take_length]
    have hsT' : F = 0 → sum = TT := fun h => by have := hsT h; rw [drop_end] at this; simpa [wAll] using this
    clear hval hnum hlot hne hls htot hsT
    repeat' (first | ((with_reducible refine gA ?_); (first | refine AW_seq ?_ | refine AW_region ?_ | refine AW_regionD Try.mixed ?_ | refine AW_condT rfl ?_ | refine AW_condF rfl ?_ | (refine AW_condY rfl ?_ ?_; assumption) | (refine AW_condN rfl ?_ ?_; assumption) | (refine AW_cond rfl (fun hc => ?_) (fun hc => ?_) <;> try (exfalso; simp only [cmpL] at hc; omega)) | refine AW_block ?_ | refine AW_ret ?_ | refine AW_skip ?_ | refine AW_exit ?_)) | (first | ((with_reducible refine gS ?_); refine Es_s (T := Try.tab) rfl rfl rfl rfl ?_) | ((with_reducible refine gD ?_); refine Ed_s (T := Try.tab) rfl rfl rfl rfl ?_)) | ((first | ((with_reducible refine gS ?_); apply Es_q) | ((with_reducible refine gD ?_); apply Ed_q)); rfl; (first | rfl | (refine w_tt ?_; assumption) | (refine w_ff ?_; assumption)); (first | refine LStep_simp (T := Try.tab) rfl rfl | refine LStep_lenM (T := Try.tab) rfl rfl rfl rfl | (refine LStep_add rfl rfl rfl rfl ?_; (refine IntWalk.i64_in _ ?_; first | omega | (simp only [cmps] at *; omega))) | (refine LStep_sub rfl rfl rfl rfl ?_; (refine IntWalk.i64_in _ ?_; first | omega | (simp only [cmps] at *; omega))) | (refine LStep_mul rfl rfl rfl rfl ?_; (refine IntWalk.i64_in _ ?_; first | omega | (simp only [cmps] at *; omega))) | (refine LStep_conv (T := Try.tab) rfl rfl rfl rfl rfl ?_; (refine IntWalk.i64_in _ ?_; first | omega | (simp only [cmps] at *; omega))) | refine LStep_wrap (T := Try.tab) rfl rfl | (refine LStep_pickT rfl rfl ?_ rfl rfl; assumption) | (refine LStep_pickF rfl rfl ?_ rfl rfl; assumption) | (refine LStep_indexM (T := Try.tab) (c := ?_) rfl rfl rfl rfl rfl rfl ?_; rotate_left; assumption) | (refine LStep_index (T := Try.tab) (c := ?_) rfl rfl rfl rfl rfl rfl ?_ ?_; rotate_left; omega; (first | assumption | rfl)) | (refine LStep_indexA (T := Try.tab) (c := ?_) rfl rfl rfl rfl rfl rfl ?_ ?_; rotate_left; omega; (first | assumption | rfl)) | (refine LStep_byteM (T := Try.tab) (c := ?_) rfl rfl rfl rfl rfl ?_; rotate_left; assumption) | (refine LStep_byte (T := Try.tab) (c := ?_) rfl rfl rfl rfl rfl ?_ ?_; rotate_left; omega; (first | assumption | rfl)) | (refine LStep_partM (T := Try.tab) rfl rfl rfl rfl rfl rfl rfl ?_ ?_ ?_; omega; omega; omega) | (refine LStep_lit (T := Try.tab) rfl rfl rfl rfl rfl rfl rfl rfl ?_; (refine Nat.le_of_ble_eq_true ?_; rfl)) | (refine LStep_litA (T := Try.tab) rfl rfl rfl rfl rfl rfl rfl ?_; (refine Nat.le_of_ble_eq_true ?_; rfl)) | refine LStep_buildN (T := Try.tab) rfl rfl rfl rfl rfl rfl rfl)) | ((first | refine Es_skip rfl ?_ rfl ?_ | refine Ed_skip rfl ?_ rfl ?_); (first | rfl | (refine w_tf ?_; assumption) | (refine w_ft ?_; assumption))) | ((first | ((with_reducible refine gS ?_); apply Es_xs) | ((with_reducible refine gD ?_); apply Ed_xs)); rfl; (first | rfl | (refine w_tt ?_; assumption) | (refine w_ff ?_; assumption)); (first | refine LStep_boxN rfl rfl rfl rfl rfl rfl | refine LStep_box rfl rfl rfl rfl rfl | refine LStep_allocN (T := Try.tab) rfl rfl rfl rfl rfl rfl | refine LStep_makeMap (kt := 0) (et := 0) rfl rfl rfl rfl | refine LStep_makeMapN (T := Try.tab) rfl rfl rfl rfl rfl rfl); rfl) | ((first | ((with_reducible refine gS ?_); apply Es_xn) | ((with_reducible refine gD ?_); apply Ed_xn)); rfl; (first | rfl | (refine w_tt ?_; assumption) | (refine w_ff ?_; assumption)); (first | (refine LStep_storeN (T := Try.tab) rfl rfl rfl rfl rfl rfl rfl ?_ rfl; (refine Nat.le_of_ble_eq_true ?_; rfl)) | (refine LStep_store (T := Try.tab) rfl rfl rfl rfl rfl rfl rfl ?_; (refine Nat.le_of_ble_eq_true ?_; rfl))); rfl) | ((first | refine Es_split rfl ?_ (fun _ => ?_) (fun _ => ?_) | refine Ed_split rfl ?_ (fun _ => ?_) (fun _ => ?_)); ((fail_if_success (refine und_t ?_; assumption)); (fail_if_success (refine und_f ?_; assumption)); exact trivial)) | (with_reducible refine Es_nil ?_) | ((with_reducible refine Ed_nil ?_ ?_); kernel_rfl) | (with_reducible refine then_n ?_) | (with_reducible refine then_r ?_) | (with_reducible refine then_e ?_) | (with_reducible refine block_n ?_) | (with_reducible refine block_r ?_) | ((with_reducible refine block_e ?_ ?_); rfl) | ((with_reducible refine block_x ?_ ?_); rfl) | ((with_reducible refine gR ?_); first | refine ret1 rfl ?_ | refine ret2 rfl rfl ?_ | refine ret0 ?_ | refine end1 rfl ?_ | refine end0 ?_))
    refine AW_forE (S := Nat) (fun k => k ≤ o.lines.length) (fun k => [(19, .d (.sc (.int .i64 (k : Nat)))), (14, .own 2001 ((ordL (o.lines.take k)).map Lot.enc).length)]) (fun k => [(2001, some (.arr 47 2 ((ordL (o.lines.take k)).map Lot.enc)))]) (fun k => o.lines.length - k) 0 (by omega) (by (repeat' (first | exact trivial | exact rfl | (refine ⟨Or.inl rfl, ?_⟩) | (refine ⟨Or.inr rfl, ?_⟩) | (refine ⟨rfl, ?_⟩) | (refine ⟨?_, ?_⟩)))) (by (repeat' (first | exact trivial | exact rfl | (refine ⟨Or.inl rfl, ?_⟩) | (refine ⟨Or.inr rfl, ?_⟩) | (refine ⟨rfl, ?_⟩) | (refine ⟨?_, ?_⟩)))) ?_
    intro j hj
    by_cases hjt : j < o.lines.length
    · obtain ⟨x, hx, _⟩ := drop_at hjt
      have ht : ordL (o.lines.take (j + 1)) = ordL (o.lines.take j) ++ [⟨x.good, x.count⟩] := by rw [take_at hx, ordL_snoc]
      have hlen : (ordL (o.lines.take j)).length ≤ 64 := by unfold ordL; rw [List.length_map, List.length_take]; omega
      repeat' (first | ((with_reducible refine gA ?_); (first | refine AW_seq ?_ | refine AW_region ?_ | refine AW_regionD Try.mixed ?_ | refine AW_condT rfl ?_ | refine AW_condF rfl ?_ | (refine AW_condY rfl ?_ ?_; assumption) | (refine AW_condN rfl ?_ ?_; assumption) | (refine AW_cond rfl (fun hc => ?_) (fun hc => ?_) <;> try (exfalso; simp only [cmpL] at hc; omega)) | refine AW_block ?_ | refine AW_ret ?_ | refine AW_skip ?_ | refine AW_exit ?_)) | (first | ((with_reducible refine gS ?_); refine Es_s (T := Try.tab) rfl rfl rfl rfl ?_) | ((with_reducible refine gD ?_); refine Ed_s (T := Try.tab) rfl rfl rfl rfl ?_)) | ((first | ((with_reducible refine gS ?_); apply Es_xs) | ((with_reducible refine gD ?_); apply Ed_xs)); rfl; (first | rfl | (refine w_tt ?_; assumption) | (refine w_ff ?_; assumption)); (refine LStep_append (T := Try.tab) rfl rfl rfl rfl rfl rfl rfl rfl rfl rfl ?_ ?_ ?_; rfl; (rw [List.length_map]; simp only [List.length_cons, List.length_nil]; omega); (unfold maxLen; rw [List.length_map]; simp only [List.length_cons, List.length_nil]; omega)); rfl) | ((first | ((with_reducible refine gS ?_); apply Es_q) | ((with_reducible refine gD ?_); apply Ed_q)); rfl; (first | rfl | (refine w_tt ?_; assumption) | (refine w_ff ?_; assumption)); (first | refine LStep_simp (T := Try.tab) rfl rfl | refine LStep_lenM (T := Try.tab) rfl rfl rfl rfl | (refine LStep_add rfl rfl rfl rfl ?_; (refine IntWalk.i64_in _ ?_; first | omega | (simp only [cmps] at *; omega))) | (refine LStep_sub rfl rfl rfl rfl ?_; (refine IntWalk.i64_in _ ?_; first | omega | (simp only [cmps] at *; omega))) | (refine LStep_mul rfl rfl rfl rfl ?_; (refine IntWalk.i64_in _ ?_; first | omega | (simp only [cmps] at *; omega))) | (refine LStep_conv (T := Try.tab) rfl rfl rfl rfl rfl ?_; (refine IntWalk.i64_in _ ?_; first | omega | (simp only [cmps] at *; omega))) | refine LStep_wrap (T := Try.tab) rfl rfl | (refine LStep_pickT rfl rfl ?_ rfl rfl; assumption) | (refine LStep_pickF rfl rfl ?_ rfl rfl; assumption) | (refine LStep_indexM (T := Try.tab) (c := ?_) rfl rfl rfl rfl rfl rfl ?_; rotate_left; assumption) | (refine LStep_index (T := Try.tab) (c := ?_) rfl rfl rfl rfl rfl rfl ?_ ?_; rotate_left; omega; (first | assumption | rfl)) | (refine LStep_indexA (T := Try.tab) (c := ?_) rfl rfl rfl rfl rfl rfl ?_ ?_; rotate_left; omega; (first | assumption | rfl)) | (refine LStep_byteM (T := Try.tab) (c := ?_) rfl rfl rfl rfl rfl ?_; rotate_left; assumption) | (refine LStep_byte (T := Try.tab) (c := ?_) rfl rfl rfl rfl rfl ?_ ?_; rotate_left; omega; (first | assumption | rfl)) | (refine LStep_partM (T := Try.tab) rfl rfl rfl rfl rfl rfl rfl ?_ ?_ ?_; omega; omega; omega) | (refine LStep_lit (T := Try.tab) rfl rfl rfl rfl rfl rfl rfl rfl ?_; (refine Nat.le_of_ble_eq_true ?_; rfl)) | (refine LStep_litA (T := Try.tab) rfl rfl rfl rfl rfl rfl rfl ?_; (refine Nat.le_of_ble_eq_true ?_; rfl)) | refine LStep_buildN (T := Try.tab) rfl rfl rfl rfl rfl rfl rfl)) | ((first | refine Es_skip rfl ?_ rfl ?_ | refine Ed_skip rfl ?_ rfl ?_); (first | rfl | (refine w_tf ?_; assumption) | (refine w_ft ?_; assumption))) | ((first | ((with_reducible refine gS ?_); apply Es_xs) | ((with_reducible refine gD ?_); apply Ed_xs)); rfl; (first | rfl | (refine w_tt ?_; assumption) | (refine w_ff ?_; assumption)); (first | refine LStep_boxN rfl rfl rfl rfl rfl rfl | refine LStep_box rfl rfl rfl rfl rfl | refine LStep_allocN (T := Try.tab) rfl rfl rfl rfl rfl rfl | refine LStep_makeMap (kt := 0) (et := 0) rfl rfl rfl rfl | refine LStep_makeMapN (T := Try.tab) rfl rfl rfl rfl rfl rfl); rfl) | ((first | ((with_reducible refine gS ?_); apply Es_xn) | ((with_reducible refine gD ?_); apply Ed_xn)); rfl; (first | rfl | (refine w_tt ?_; assumption) | (refine w_ff ?_; assumption)); (first | (refine LStep_storeN (T := Try.tab) rfl rfl rfl rfl rfl rfl rfl ?_ rfl; (refine Nat.le_of_ble_eq_true ?_; rfl)) | (refine LStep_store (T := Try.tab) rfl rfl rfl rfl rfl rfl rfl ?_; (refine Nat.le_of_ble_eq_true ?_; rfl))); rfl) | ((first | refine Es_split rfl ?_ (fun _ => ?_) (fun _ => ?_) | refine Ed_split rfl ?_ (fun _ => ?_) (fun _ => ?_)); ((fail_if_success (refine und_t ?_; assumption)); (fail_if_success (refine und_f ?_; assumption)); exact trivial)) | (with_reducible refine Es_nil ?_) | ((with_reducible refine Ed_nil ?_ ?_); kernel_rfl) | (with_reducible refine then_n ?_) | (with_reducible refine then_r ?_) | (with_reducible refine then_e ?_) | (with_reducible refine block_n ?_) | (with_reducible refine block_r ?_) | ((with_reducible refine block_e ?_ ?_); rfl) | ((with_reducible refine block_x ?_ ?_); rfl) | ((with_reducible refine gR ?_); first | refine ret1 rfl ?_ | refine ret2 rfl rfl ?_ | refine ret0 ?_ | refine end1 rfl ?_ | refine end0 ?_))
      refine ⟨j + 1, by omega, by omega, ?_, by (repeat' (first | exact trivial | exact rfl | (refine ⟨Or.inl rfl, ?_⟩) | (refine ⟨Or.inr rfl, ?_⟩) | (refine ⟨rfl, ?_⟩) | (refine ⟨?_, ?_⟩))), ?_, by (repeat' (first | exact trivial | exact rfl | (refine ⟨Or.inl rfl, ?_⟩) | (refine ⟨Or.inr rfl, ?_⟩) | (refine ⟨rfl, ?_⟩) | (refine ⟨?_, ?_⟩)))⟩
      all_goals (rw [ht, List.map_append]; (repeat' (first | exact trivial | exact rfl | (refine ⟨Or.inl rfl, ?_⟩) | (refine ⟨Or.inr rfl, ?_⟩) | (refine ⟨rfl, ?_⟩) | (refine ⟨?_, ?_⟩))))
    · have : j = o.lines.length := by omega
      subst this
      rw [List.take_length]
      refine AW_freeze [13] (id := 2000) ⟨rfl, trivial⟩ rfl rfl ?_
      refine AW_freeze [14] (id := 2001) ⟨rfl, trivial⟩ rfl rfl ?_
      repeat' (first | ((with_reducible refine gA ?_); (first | refine AW_seq ?_ | refine AW_region ?_ | refine AW_regionD Try.mixed ?_ | refine AW_condT rfl ?_ | refine AW_condF rfl ?_ | (refine AW_condY rfl ?_ ?_; assumption) | (refine AW_condN rfl ?_ ?_; assumption) | (refine AW_cond rfl (fun hc => ?_) (fun hc => ?_) <;> try (exfalso; simp only [cmpL] at hc; omega)) | refine AW_block ?_ | refine AW_ret ?_ | refine AW_skip ?_ | refine AW_exit ?_)) | (first | ((with_reducible refine gS ?_); refine Es_s (T := Try.tab) rfl rfl rfl rfl ?_) | ((with_reducible refine gD ?_); refine Ed_s (T := Try.tab) rfl rfl rfl rfl ?_)) | ((first | ((with_reducible refine gS ?_); apply Es_q) | ((with_reducible refine gD ?_); apply Ed_q)); rfl; (first | rfl | (refine w_tt ?_; assumption) | (refine w_ff ?_; assumption)); (first | refine LStep_call (cj1) rfl rfl rfl rfl | refine LStep_call (cj2) rfl rfl rfl rfl | refine LStep_call (cs) rfl rfl rfl rfl)) | ((first | ((with_reducible refine gS ?_); apply Es_q) | ((with_reducible refine gD ?_); apply Ed_q)); rfl; (first | rfl | (refine w_tt ?_; assumption) | (refine w_ff ?_; assumption)); (first | refine LStep_simp (T := Try.tab) rfl rfl | refine LStep_lenM (T := Try.tab) rfl rfl rfl rfl | (refine LStep_add rfl rfl rfl rfl ?_; (refine IntWalk.i64_in _ ?_; first | omega | (simp only [cmps] at *; omega))) | (refine LStep_sub rfl rfl rfl rfl ?_; (refine IntWalk.i64_in _ ?_; first | omega | (simp only [cmps] at *; omega))) | (refine LStep_mul rfl rfl rfl rfl ?_; (refine IntWalk.i64_in _ ?_; first | omega | (simp only [cmps] at *; omega))) | (refine LStep_conv (T := Try.tab) rfl rfl rfl rfl rfl ?_; (refine IntWalk.i64_in _ ?_; first | omega | (simp only [cmps] at *; omega))) | refine LStep_wrap (T := Try.tab) rfl rfl | (refine LStep_pickT rfl rfl ?_ rfl rfl; assumption) | (refine LStep_pickF rfl rfl ?_ rfl rfl; assumption) | (refine LStep_indexM (T := Try.tab) (c := ?_) rfl rfl rfl rfl rfl rfl ?_; rotate_left; assumption) | (refine LStep_index (T := Try.tab) (c := ?_) rfl rfl rfl rfl rfl rfl ?_ ?_; rotate_left; omega; (first | assumption | rfl)) | (refine LStep_indexA (T := Try.tab) (c := ?_) rfl rfl rfl rfl rfl rfl ?_ ?_; rotate_left; omega; (first | assumption | rfl)) | (refine LStep_byteM (T := Try.tab) (c := ?_) rfl rfl rfl rfl rfl ?_; rotate_left; assumption) | (refine LStep_byte (T := Try.tab) (c := ?_) rfl rfl rfl rfl rfl ?_ ?_; rotate_left; omega; (first | assumption | rfl)) | (refine LStep_partM (T := Try.tab) rfl rfl rfl rfl rfl rfl rfl ?_ ?_ ?_; omega; omega; omega) | (refine LStep_lit (T := Try.tab) rfl rfl rfl rfl rfl rfl rfl rfl ?_; (refine Nat.le_of_ble_eq_true ?_; rfl)) | (refine LStep_litA (T := Try.tab) rfl rfl rfl rfl rfl rfl rfl ?_; (refine Nat.le_of_ble_eq_true ?_; rfl)) | refine LStep_buildN (T := Try.tab) rfl rfl rfl rfl rfl rfl rfl)) | ((first | refine Es_skip rfl ?_ rfl ?_ | refine Ed_skip rfl ?_ rfl ?_); (first | rfl | (refine w_tf ?_; assumption) | (refine w_ft ?_; assumption))) | ((first | ((with_reducible refine gS ?_); apply Es_xs) | ((with_reducible refine gD ?_); apply Ed_xs)); rfl; (first | rfl | (refine w_tt ?_; assumption) | (refine w_ff ?_; assumption)); (first | refine LStep_boxN rfl rfl rfl rfl rfl rfl | refine LStep_box rfl rfl rfl rfl rfl | refine LStep_allocN (T := Try.tab) rfl rfl rfl rfl rfl rfl | refine LStep_makeMap (kt := 0) (et := 0) rfl rfl rfl rfl | refine LStep_makeMapN (T := Try.tab) rfl rfl rfl rfl rfl rfl); rfl) | ((first | ((with_reducible refine gS ?_); apply Es_xn) | ((with_reducible refine gD ?_); apply Ed_xn)); rfl; (first | rfl | (refine w_tt ?_; assumption) | (refine w_ff ?_; assumption)); (first | (refine LStep_storeN (T := Try.tab) rfl rfl rfl rfl rfl rfl rfl ?_ rfl; (refine Nat.le_of_ble_eq_true ?_; rfl)) | (refine LStep_store (T := Try.tab) rfl rfl rfl rfl rfl rfl rfl ?_; (refine Nat.le_of_ble_eq_true ?_; rfl))); rfl) | ((first | refine Es_split rfl ?_ (fun _ => ?_) (fun _ => ?_) | refine Ed_split rfl ?_ (fun _ => ?_) (fun _ => ?_)); ((fail_if_success (refine und_t ?_; assumption)); (fail_if_success (refine und_f ?_; assumption)); exact trivial)) | (with_reducible refine Es_nil ?_) | ((with_reducible refine Ed_nil ?_ ?_); kernel_rfl) | (with_reducible refine then_n ?_) | (with_reducible refine then_r ?_) | (with_reducible refine then_e ?_) | (with_reducible refine block_n ?_) | (with_reducible refine block_r ?_) | ((with_reducible refine block_e ?_ ?_); rfl) | ((with_reducible refine block_x ?_ ?_); rfl) | ((with_reducible refine gR ?_); first | refine ret1 rfl ?_ | refine ret2 rfl rfl ?_ | refine ret0 ?_ | refine end1 rfl ?_ | refine end0 ?_))
      all_goals simp only [cmps] at *
      all_goals first
        | rfl
        | (exfalso; omega)
theorem orderSums_ac (o : Ord) (dates : List Int) (parts : List (List Int)) (fo : o.Fit) (hf : CutFit o dates parts) :
    AC Try.prog 8 [.agg o.cs, .d (.sl 1 (dates.map iE)), .d (.sl 1 (parts.map pE))] [] [] (fun r _ => r = .d (.sc (.bool true))) := by
  by_cases h0 : cutCode o dates parts = 0
  · exact orderSumsYes_ac o dates parts fo hf h0
  · exact orderSumsNo_ac o dates parts fo hf h0
end Go.Proofs.Ytnfgkccocknloaa
