import Derived.Test.YtldfncafkdmoiaaFI
namespace Go.Proofs.Ytldfncafkdmoiaa
open Go.SL
/-! ### share.Split -/
theorem map_fill {e : Nat → List D} {l : List Nat} {i v : Nat} (h : l[i]? = some v) : ((fillV l i).map e).set i (e v) = (fillV l (i + 1)).map e := by rw [← List.map_set, fillV_set h]
theorem bump_snoc (ps l : List Nat) (j : Nat) : bump ps (l ++ [j]) = (bump ps l).set j ((bump ps l).getD j 0 + 1) := by unfold bump; rw [List.foldl_append]; rfl
theorem bump_le (B : Nat) : ∀ (l ps : List Nat), (∀ v ∈ ps, v ≤ B) → ∀ v ∈ bump ps l, v ≤ B + l.length
  | [], ps, h, v, hv => by simpa using h v hv
  | j :: l, ps, h, v, hv => by
    have hv' : v ∈ bump (ps.set j (ps.getD j 0 + 1)) l := hv
    have := bump_le (B + 1) l (ps.set j (ps.getD j 0 + 1)) (fun u hu => by
      rcases List.mem_or_eq_of_mem_set hu with q | q
      · have := h u q; omega
      · by_cases hj : j < ps.length
        · have h2 := h _ (List.getElem_mem hj)
          rw [List.getD_eq_getElem?_getD, List.getElem?_eq_getElem hj, Option.getD_some] at q
          omega
        · rw [List.getD_eq_getElem?_getD, List.getElem?_eq_none (by omega), Option.getD_none] at q
          omega) v hv'
    rw [List.length_cons]
    omega
def P3 (t s : Nat) (ws : List Nat) (i : Nat) : Hp :=
  [(30, some (.arr 2 1 ((fillV (shQ t s ws) i).map nN))), (47, some (.arr 80 1 ((fillV (shR t s ws) i).map nU))), (50, some (.arr 3 1 ((fillV (List.range ws.length) i).map nN)))]
set_option maxRecDepth 10000 in
set_option maxHeartbeats 8000000 in
theorem split_ac (t : Nat) (ws : List Nat) (ht : t ≤ 1099511627776) (h0 : ws ≠ []) (hl : ws.length ≤ 4096) (hw : ∀ x ∈ ws, x ≤ 1099511627776) (hp : 0 < t → 0 < ws.sum)
    (hD : ∀ w ∈ ws, AC Try.prog 50 [uN (t * w / 18446744073709551616), uN (t * w % 18446744073709551616), uN ws.sum] [] [] (fun r _ => r = .tup [uN (t * w / ws.sum), uN (t * w % ws.sum)]))
    (hS : srtR (shR t ws.sum ws) ws.length) :
    AC Try.prog 30 [.d (.sc (.int .i64 ((t : Nat) : Int))), .d (.sl 1 (ws.map nN))] [] [] (fun r _ => r = .tup [.d (.sl 1 ((splitN t ws).map nN)), .d (.sc (.int .i64 0))]) := by
  have cw := shareWrong_ac t ws ht h0 hl hw (fun h => by
    have hs := hp h
    refine Classical.byContradiction fun hc => ?_
    have : ws.sum ≤ ws.length * 0 := sum_le ws 0 (fun x hx => by
      refine Classical.byContradiction fun hx0 => hc ⟨x, hx, by omega⟩)
    omega)
  by_cases h00 : t = 0
  · subst h00
    have e : splitN 0 ws = List.replicate ws.length 0 := by unfold splitN; rw [if_pos rfl]
    have e2 : List.replicate ((ws.length : Nat) : Int).toNat [D.sc (.int .i64 0)] = (List.replicate ws.length 0).map nN := by rw [List.map_replicate, Int.toNat_natCast]; rfl
    rw [e]
    have g1 : eqb ((0 : Nat) : Int) 0 = true := by rw [eqb_t]; omega
    refine AC_enter Try.func30 rfl Try.ntmps30 (rv := [.tmp 4, .tmp 5]) rfl rfl (by simp) (fun w X G => ?_)
    repeat' (first | ((with_reducible refine gRc ?_); refine AW_freeze [4] (id := 30) ⟨rfl, trivial⟩ rfl List.length_replicate ?_) | ((with_reducible refine gA ?_); (first | refine AW_seq ?_ | refine AW_region ?_ | (refine AW_condY rfl ?_ ?_; assumption) | (refine AW_cond rfl (fun hc => ?_) (fun hc => ?_) <;> try (exfalso; simp only [cmpL] at hc; omega)) | refine AW_ret ?_ | refine AW_skip ?_)) | ((with_reducible refine gS ?_); refine Es_s (T := Try.tab) rfl rfl rfl rfl ?_) | (((with_reducible refine gS ?_); apply Es_q); rfl; rfl; refine LStep_call (cw) rfl rfl rfl rfl) | (((with_reducible refine gS ?_); apply Es_xs); rfl; rfl; (refine LStep_makeOwn (T := Try.tab) rfl rfl rfl rfl rfl rfl rfl rfl rfl rfl ?_ ?_ ?_ ?_; omega; omega; omega; omega); rfl) | (((with_reducible refine gS ?_); apply Es_q); rfl; rfl; refine LStep_lenM (T := Try.tab) rfl rfl rfl rfl) | (with_reducible refine Es_nil ?_) | (with_reducible refine then_n ?_) | (with_reducible refine then_r ?_) | ((with_reducible refine gR ?_); first | refine ret1 rfl ?_ | refine ret2 rfl rfl ?_ | refine ret0 ?_ | refine end1 rfl ?_ | refine end0 ?_))
    all_goals first
      | (show _ = AV.tup [_, _]; rw [← e2]; rfl)
      | trace_state
  have hs0 := hp (by omega)
  have hs1 : ws.sum ≤ 4503599627370496 := by
    have := sum_le ws _ hw
    have : ws.length * 1099511627776 ≤ 4096 * 1099511627776 := Nat.mul_le_mul_right _ hl
    omega
  have g1 : eqb ((t : Nat) : Int) 0 = false := by rw [eqb_f]; omega
  have eS : splitN t ws = bump (shQ t ws.sum ws) ((ordR (shR t ws.sum ws)).take (t - (shQ t ws.sum ws).sum)) := by unfold splitN; rw [if_neg h00]
  have hq0 := shQ_le (t := t) hs0 rfl
  have hlf := left_le (t := t) hs0 rfl
  have lq : (shQ t ws.sum ws).length = ws.length := by unfold shQ; rw [List.length_map]
  have lr : (shR t ws.sum ws).length = ws.length := by unfold shR; rw [List.length_map]
  have ln : (List.range ws.length).length = ws.length := List.length_range
  have eo : ordR (shR t ws.sum ws) = isL (ltOf (cmpR (shR t ws.sum ws))) (List.range ws.length) := by unfold ordR; rw [lr]
  refine AC_enter Try.func30 rfl Try.ntmps30 (rv := [.tmp 4, .tmp 5]) rfl rfl (by simp) (fun w X G => ?_)
  repeat' (first | ((with_reducible refine gA ?_); (first | refine AW_seq ?_ | refine AW_region ?_ | (refine AW_condN rfl ?_ ?_; assumption) | (refine AW_cond rfl (fun hc => ?_) (fun hc => ?_) <;> try (exfalso; simp only [cmpL] at hc; omega)) | refine AW_block ?_ | refine AW_skip ?_)) | ((with_reducible refine gS ?_); refine Es_s (T := Try.tab) rfl rfl rfl rfl ?_) | (((with_reducible refine gS ?_); apply Es_q); rfl; rfl; refine LStep_call (cw) rfl rfl rfl rfl) | (((with_reducible refine gS ?_); apply Es_xs); rfl; rfl; (refine LStep_makeOwn (T := Try.tab) rfl rfl rfl rfl rfl rfl rfl rfl rfl rfl ?_ ?_ ?_ ?_; omega; omega; omega; omega); rfl) | (((with_reducible refine gS ?_); apply Es_q); rfl; rfl; refine LStep_lenM (T := Try.tab) rfl rfl rfl rfl) | (with_reducible refine Es_nil ?_) | (with_reducible refine then_n ?_))
  refine AW_forE (S := Nat) (fun k => k ≤ ws.length) (fun k => [(36, .d (.sc (.int .i64 (k : Nat)))), (8, .d (.sc (.int .u64 (((ws.take k).sum : Nat) : Int))))]) (fun _ => []) (fun k => ws.length - k) 0 (by omega) (by (repeat' (first | exact trivial | exact rfl | (refine ⟨Or.inl rfl, ?_⟩) | (refine ⟨Or.inr rfl, ?_⟩) | (refine ⟨Or.inr trivial, ?_⟩) | (refine ⟨rfl, ?_⟩) | (refine ⟨?_, ?_⟩)))) (by (repeat' (first | exact trivial | exact rfl | (refine ⟨Or.inl rfl, ?_⟩) | (refine ⟨Or.inr rfl, ?_⟩) | (refine ⟨Or.inr trivial, ?_⟩) | (refine ⟨rfl, ?_⟩) | (refine ⟨?_, ?_⟩)))) ?_
  intro k hk
  by_cases hlt : k < ws.length
  · obtain ⟨x, hx, _⟩ := drop_at hlt
    have hxw := hw x (List.mem_of_getElem? hx)
    have g2 : ltb (k : Nat) (ws.length : Nat) = true := by rw [ltb_t]; omega
    have hst := sum_take_at hx
    have hle := sum_take_le ws (k + 1)
    generalize (ws.take k).sum = u at *
    repeat' (first | ((with_reducible refine gA ?_); (first | refine AW_seq ?_ | refine AW_region ?_ | (refine AW_condY rfl ?_ ?_; assumption) | refine AW_block ?_ | refine AW_skip ?_)) | (((with_reducible refine gS ?_); apply Es_q); rfl; rfl; (first | (refine LStep_conv (T := Try.tab) rfl rfl rfl rfl rfl ?_; (refine u64_fit ?_; omega)) | (refine LStep_add rfl rfl rfl rfl ?_; (first | (refine IntWalk.i64_in _ ?_; omega) | (refine u64_fit ?_; omega))))) | ((with_reducible refine gS ?_); refine Es_s (T := Try.tab) rfl rfl rfl rfl ?_) | (((with_reducible refine gS ?_); apply Es_q); rfl; rfl; (refine LStep_indexM (T := Try.tab) (c := ?_) rfl rfl rfl rfl rfl rfl ?_; rotate_left; assumption)) | (with_reducible refine Es_nil ?_) | (with_reducible refine then_n ?_) | (with_reducible refine block_n ?_))
    all_goals first
      | (refine ⟨k + 1, by omega, by omega, ?_, by (repeat' (first | exact trivial | exact rfl | (refine ⟨Or.inl rfl, ?_⟩) | (refine ⟨Or.inr rfl, ?_⟩) | (refine ⟨Or.inr trivial, ?_⟩) | (refine ⟨rfl, ?_⟩) | (refine ⟨?_, ?_⟩))), by (repeat' (first | exact trivial | exact rfl | (refine ⟨Or.inl rfl, ?_⟩) | (refine ⟨Or.inr rfl, ?_⟩) | (refine ⟨Or.inr trivial, ?_⟩) | (refine ⟨rfl, ?_⟩) | (refine ⟨?_, ?_⟩))), by (repeat' (first | exact trivial | exact rfl | (refine ⟨Or.inl rfl, ?_⟩) | (refine ⟨Or.inr rfl, ?_⟩) | (refine ⟨Or.inr trivial, ?_⟩) | (refine ⟨rfl, ?_⟩) | (refine ⟨?_, ?_⟩)))⟩
         rw [hst]; (repeat' (first | exact trivial | exact rfl | (refine ⟨Or.inl rfl, ?_⟩) | (refine ⟨Or.inr rfl, ?_⟩) | (refine ⟨Or.inr trivial, ?_⟩) | (refine ⟨rfl, ?_⟩) | (refine ⟨?_, ?_⟩))))
      | trace_state
  have : k = ws.length := by omega
  subst this
  have g2 : ltb (ws.length : Nat) (ws.length : Nat) = false := by rw [ltb_f]; omega
  rw [List.take_length]
  repeat' (first | ((with_reducible refine gA ?_); (first | refine AW_seq ?_ | refine AW_region ?_ | (refine AW_condN rfl ?_ ?_; assumption) | refine AW_block ?_ | refine AW_exit ?_)) | ((with_reducible refine gS ?_); refine Es_s (T := Try.tab) rfl rfl rfl rfl ?_) | (((with_reducible refine gS ?_); apply Es_xs); rfl; rfl; (refine LStep_makeOwn (T := Try.tab) rfl rfl rfl rfl rfl rfl rfl rfl rfl rfl ?_ ?_ ?_ ?_; omega; omega; omega; omega); rfl) | (((with_reducible refine gS ?_); apply Es_q); rfl; rfl; refine LStep_lenM (T := Try.tab) rfl rfl rfl rfl) | (refine Es_skip rfl ?_ rfl ?_; (first | rfl | (refine w_tf ?_; assumption) | (refine w_ft ?_; assumption))) | (((with_reducible refine gS ?_); apply Es_xs); rfl; rfl; refine LStep_allocN (T := Try.tab) rfl rfl rfl rfl rfl rfl; rfl) | (((with_reducible refine gS ?_); apply Es_xn); rfl; rfl; (refine LStep_storeN (T := Try.tab) rfl rfl rfl rfl rfl rfl rfl ?_ rfl; (refine Nat.le_of_ble_eq_true ?_; rfl)); rfl) | (with_reducible refine Es_nil ?_) | (with_reducible refine then_n ?_) | (with_reducible refine then_e ?_) | ((with_reducible refine block_e ?_ ?_); rfl))
  simp only [Int.toNat_natCast]
  have z1 : (fillV (shQ t ws.sum ws) 0).map nN = List.replicate ws.length [D.sc (.int .i64 0)] := by rw [fillV_zero, List.map_replicate, lq]; rfl
  have z2 : (fillV (shR t ws.sum ws) 0).map nU = List.replicate ws.length [D.sc (.int .u64 0)] := by rw [fillV_zero, List.map_replicate, lr]; rfl
  have z3 : (fillV (List.range ws.length) 0).map nN = List.replicate ws.length [D.sc (.int .i64 0)] := by rw [fillV_zero, List.map_replicate, ln]; rfl
  refine AW_forE (S := Nat) (fun i => i ≤ ws.length) (fun i => [(54, .d (.sc (.int .i64 (i : Nat)))), (13, .d (.sc (.int .i64 ((t - ((shQ t ws.sum ws).take i).sum : Nat) : Int))))]) (fun i => P3 t ws.sum ws i) (fun i => ws.length - i) 0 (by omega) (by (repeat' (first | exact trivial | exact rfl | (refine ⟨Or.inl rfl, ?_⟩) | (refine ⟨Or.inr rfl, ?_⟩) | (refine ⟨Or.inr trivial, ?_⟩) | (refine ⟨rfl, ?_⟩) | (refine ⟨?_, ?_⟩)))) (by unfold P3; rw [z1, z2, z3]; (repeat' (first | exact trivial | exact rfl | (refine ⟨Or.inl rfl, ?_⟩) | (refine ⟨Or.inr rfl, ?_⟩) | (refine ⟨Or.inr trivial, ?_⟩) | (refine ⟨rfl, ?_⟩) | (refine ⟨?_, ?_⟩)))) ?_
  clear z1 z2 z3
  intro i hi
  by_cases hlt : i < ws.length
  · obtain ⟨x, hx, _⟩ := drop_at hlt
    have hxw := hw x (List.mem_of_getElem? hx)
    have hdx := hD x (List.mem_of_getElem? hx)
    have hxs := mem_le_sum (List.mem_of_getElem? hx)
    have g2 : ltb (i : Nat) (ws.length : Nat) = true := by rw [ltb_t]; omega
    have hx1 : (shQ t ws.sum ws)[i]? = some (t * x / ws.sum) := by unfold shQ; rw [List.getElem?_map, hx]; rfl
    have hx2 : (shR t ws.sum ws)[i]? = some (t * x % ws.sum) := by unfold shR; rw [List.getElem?_map, hx]; rfl
    have hx3 : (List.range ws.length)[i]? = some i := by rw [List.getElem?_range hlt]
    have hmu := mul64_ac t x (by omega) (by omega)
    have hqt : t * x / ws.sum ≤ t := by
      rw [Nat.div_le_iff_le_mul_add_pred hs0]
      have := Nat.mul_le_mul_left t hxs
      rw [Nat.mul_comm t ws.sum] at this
      omega
    have hst := sum_take_at hx1
    have hle := sum_take_le (shQ t ws.sum ws) (i + 1)
    have e1 := map_fill (e := nN) hx1
    have e2 := map_fill (e := nU) hx2
    have e3 := map_fill (e := nN) hx3
    have k1 := fillV_at (l := shQ t ws.sum ws) (i := i) (by omega)
    have k2 := fillV_at (l := shR t ws.sum ws) (i := i) (by omega)
    have k3 := fillV_at (l := List.range ws.length) (i := i) (by omega)
    have n1 := fillV_len (l := shQ t ws.sum ws) (i := i) (by omega)
    have n2 := fillV_len (l := shR t ws.sum ws) (i := i) (by omega)
    have n3 := fillV_len (l := List.range ws.length) (i := i) (by omega)
    unfold P3
    unfold uN at hdx hmu
    generalize hE1 : (fillV (shQ t ws.sum ws) (i + 1)).map nN = E1 at *
    generalize hE2 : (fillV (shR t ws.sum ws) (i + 1)).map nU = E2 at *
    generalize hE3 : (fillV (List.range ws.length) (i + 1)).map nN = E3 at *
    generalize fillV (shQ t ws.sum ws) i = L1 at *
    generalize fillV (shR t ws.sum ws) i = L2 at *
    generalize fillV (List.range ws.length) i = L3 at *
    generalize hu' : ((shQ t ws.sum ws).take (i + 1)).sum = u' at *
    generalize ((shQ t ws.sum ws).take i).sum = u at *
    generalize t * x / ws.sum = q at *
    generalize t * x % ws.sum = r at *
    generalize t * x / 18446744073709551616 = hi at *
    generalize t * x % 18446744073709551616 = lo at *
    have b5 : ((L1.map nN).set i (nN q))[i]? = some (nN q) := by rw [List.getElem?_set_self (by rw [List.length_map]; omega)]
    have hsub : AV.d (.sc (.int .i64 (wrp .i64 (((t - u : Nat) : Int) - ((q : Nat) : Int))))) = AV.d (.sc (.int .i64 ((t - u' : Nat) : Int))) := by
      rw [wrp_fit (by omega)]
      congr 3
      omega
    repeat' (first | ((with_reducible refine gA ?_); (first | refine AW_seq ?_ | refine AW_region ?_ | refine AW_regionD Try.mixed ?_ | (refine AW_condY rfl ?_ ?_; assumption) | refine AW_block ?_ | refine AW_skip ?_)) | ((first | ((with_reducible refine gS ?_); apply Es_q) | ((with_reducible refine gD ?_); apply Ed_q)); rfl; rfl; (first | (refine LStep_conv (T := Try.tab) rfl rfl rfl rfl rfl ?_; (first | (refine u64_fit ?_; omega) | (refine IntWalk.i64_in _ ?_; omega))) | refine LStep_fitQ (T := Try.tab) rfl rfl hsub)) | (first | ((with_reducible refine gS ?_); refine Es_s (T := Try.tab) rfl rfl rfl rfl ?_) | ((with_reducible refine gD ?_); refine Ed_s (T := Try.tab) rfl rfl rfl rfl ?_)) | ((first | ((with_reducible refine gS ?_); apply Es_q) | ((with_reducible refine gD ?_); apply Ed_q)); rfl; rfl; (first | refine LStep_call (hmu) rfl rfl rfl rfl | refine LStep_call (hdx) rfl rfl rfl rfl | (refine LStep_indexOwnM (T := Try.tab) rfl rfl rfl rfl rfl rfl rfl ?_ ?_; (simp only [List.length_set, List.length_map]; omega); (simp only [List.length_set, List.length_map]; omega)) | (refine LStep_loadE (T := Try.tab) rfl rfl rfl rfl rfl ?_ b5 rfl; (simp only [List.length_set, List.length_map]; omega)))) | ((first | ((with_reducible refine gS ?_); apply Es_xn) | ((with_reducible refine gD ?_); apply Ed_xn)); rfl; rfl; (first | (refine LStep_storeEM (T := Try.tab) rfl rfl rfl rfl rfl rfl rfl rfl ?_ k1 rfl; (rw [List.length_map]; omega)) | (refine LStep_storeEM (T := Try.tab) rfl rfl rfl rfl rfl rfl rfl rfl ?_ k2 rfl; (rw [List.length_map]; omega)) | (refine LStep_storeEM (T := Try.tab) rfl rfl rfl rfl rfl rfl rfl rfl ?_ k3 rfl; (rw [List.length_map]; omega))); rfl) | (((with_reducible refine gS ?_); apply Es_q); rfl; rfl; (first | (refine LStep_add rfl rfl rfl rfl ?_; (refine IntWalk.i64_in _ ?_; first | omega | (simp only [cmps] at *; omega))) | (refine LStep_indexM (T := Try.tab) (c := ?_) rfl rfl rfl rfl rfl rfl ?_; rotate_left; assumption))) | (with_reducible refine Es_nil ?_) | ((with_reducible refine Ed_nil ?_ ?_); kernel_rfl) | (with_reducible refine then_n ?_) | (with_reducible refine block_n ?_))
    all_goals first
      | (refine ⟨i + 1, by omega, by omega, ?_, by (repeat' (first | exact trivial | exact rfl | (refine ⟨Or.inl rfl, ?_⟩) | (refine ⟨Or.inr rfl, ?_⟩) | (refine ⟨Or.inr trivial, ?_⟩) | (refine ⟨rfl, ?_⟩) | (refine ⟨?_, ?_⟩))), ?_, by (repeat' (first | exact trivial | exact rfl | (refine ⟨Or.inl rfl, ?_⟩) | (refine ⟨Or.inr rfl, ?_⟩) | (refine ⟨Or.inr trivial, ?_⟩) | (refine ⟨rfl, ?_⟩) | (refine ⟨?_, ?_⟩)))⟩
         · rw [hu']; (repeat' (first | exact trivial | exact rfl | (refine ⟨Or.inl rfl, ?_⟩) | (refine ⟨Or.inr rfl, ?_⟩) | (refine ⟨Or.inr trivial, ?_⟩) | (refine ⟨rfl, ?_⟩) | (refine ⟨?_, ?_⟩)))
         · rw [hE1, hE2, hE3, ← e1, ← e2, ← e3]; (repeat' (first | exact trivial | exact rfl | (refine ⟨Or.inl rfl, ?_⟩) | (refine ⟨Or.inr rfl, ?_⟩) | (refine ⟨Or.inr trivial, ?_⟩) | (refine ⟨rfl, ?_⟩) | (refine ⟨?_, ?_⟩))))
      | trace_state
  have : i = ws.length := by omega
  subst this
  have g3 : ltb (ws.length : Nat) (ws.length : Nat) = false := by rw [ltb_f]; omega
  unfold P3
  have o1 : fillV (shQ t ws.sum ws) ws.length = shQ t ws.sum ws := by rw [← lq, fillV_all]
  have o2 : fillV (shR t ws.sum ws) ws.length = shR t ws.sum ws := by rw [← lr, fillV_all]
  have o3 : fillV (List.range ws.length) ws.length = List.range ws.length := by
    have := fillV_all (List.range ws.length)
    rwa [ln] at this
  have o4 : (shQ t ws.sum ws).take ws.length = shQ t ws.sum ws := by rw [← lq, List.take_length]
  rw [o1, o2, o3, o4, eS, eo]
  have hperm := isL_perm (lt := ltOf (cmpR (shR t ws.sum ws))) (List.range ws.length)
  have hol : (isL (ltOf (cmpR (shR t ws.sum ws))) (List.range ws.length)).length = ws.length := by rw [hperm.length_eq, ln]
  have hom : ∀ j ∈ isL (ltOf (cmpR (shR t ws.sum ws))) (List.range ws.length), j < ws.length := fun j hj => List.mem_range.1 (hperm.mem_iff.1 hj)
  have hqb : ∀ v ∈ shQ t ws.sum ws, v ≤ t := fun v hv => Nat.le_trans (mem_le_sum hv) hq0
  unfold srtR H3 HR at hS
  clear hD o1 o2 o3 o4 eS eo hperm
  generalize isL (ltOf (cmpR (shR t ws.sum ws))) (List.range ws.length) = ord at *
  generalize shQ t ws.sum ws = qs at *
  generalize shR t ws.sum ws = rs at *
  have hll : ((List.range ws.length).map nN).length = (ord.map nN).length := by rw [List.length_map, List.length_map, ln, hol]
  repeat' (first | ((with_reducible refine gA ?_); (first | refine AW_seq ?_ | refine AW_region ?_ | (refine AW_condN rfl ?_ ?_; assumption) | refine AW_block ?_ | refine AW_exit ?_)) | ((with_reducible refine gS ?_); refine Es_s (T := Try.tab) rfl rfl rfl rfl ?_) | (((with_reducible refine gS ?_); apply Es_q); rfl; rfl; (first | (refine LStep_partOwnTo (T := Try.tab) rfl rfl rfl rfl rfl rfl rfl ?_ ?_; (rw [List.length_map]; omega); (rw [List.length_map]; omega)) | (refine LStep_lenPart (T := Try.tab) rfl rfl rfl rfl rfl ?_; (rw [List.length_map]; omega)))) | (((with_reducible refine gS ?_); apply Es_xg); rfl; rfl; refine LStep_callHN [(1000, 50), (1100, 11), (1101, 47)] [] hS rfl rfl ⟨rfl, rfl, rfl, trivial⟩ rfl ⟨hll, trivial, rfl, trivial⟩ rfl rfl; rfl) | (with_reducible refine Es_nil ?_) | (with_reducible refine then_n ?_) | (with_reducible refine then_e ?_) | ((with_reducible refine block_e ?_ ?_); rfl))
  clear hll hS
  generalize hlv : t - qs.sum = lv at *
  refine AW_forE (S := Nat) (fun k => k ≤ lv) (fun k => [(101, .d (.sc (.int .i64 (k : Nat))))]) (fun k => [(30, some (.arr 2 1 ((bump qs (ord.take k)).map nN)))]) (fun k => lv - k) 0 (by omega) (by (repeat' (first | exact trivial | exact rfl | (refine ⟨Or.inl rfl, ?_⟩) | (refine ⟨Or.inr rfl, ?_⟩) | (refine ⟨Or.inr trivial, ?_⟩) | (refine ⟨rfl, ?_⟩) | (refine ⟨?_, ?_⟩)))) (by (repeat' (first | exact trivial | exact rfl | (refine ⟨Or.inl rfl, ?_⟩) | (refine ⟨Or.inr rfl, ?_⟩) | (refine ⟨Or.inr trivial, ?_⟩) | (refine ⟨rfl, ?_⟩) | (refine ⟨?_, ?_⟩)))) ?_
  intro k hk
  have hbl := bump_len (ord.take k) qs
  by_cases hlt : k < lv
  · have hko : k < ord.length := by omega
    obtain ⟨j, hj, _⟩ := drop_at hko
    have hjn := hom j (List.mem_of_getElem? hj)
    have g4 : ltb (k : Nat) (lv : Nat) = true := by rw [ltb_t]; omega
    have hst := bump_snoc qs (ord.take k) j
    rw [← take_at hj] at hst
    have hbb := bump_le t (ord.take k) qs hqb
    have htl : (ord.take k).length ≤ 4096 := by rw [List.length_take]; omega
    generalize (ord.take k).length = tl at *
    generalize hL' : bump qs (ord.take (k + 1)) = L' at *
    generalize bump qs (ord.take k) = L at *
    obtain ⟨v, hv⟩ : ∃ v, L[j]? = some v := ⟨_, List.getElem?_eq_getElem (by omega)⟩
    have hvb := hbb v (List.mem_of_getElem? hv)
    rw [getD_at hv] at hst
    have e1 : (L.map nN).set j (nN (v + 1)) = L'.map nN := by rw [← List.map_set, ← hst]
    repeat' (first | ((with_reducible refine gA ?_); (first | refine AW_seq ?_ | refine AW_region ?_ | (refine AW_condY rfl ?_ ?_; assumption) | refine AW_block ?_ | refine AW_skip ?_)) | ((with_reducible refine gS ?_); refine Es_s (T := Try.tab) rfl rfl rfl rfl ?_) | (((with_reducible refine gS ?_); apply Es_q); rfl; rfl; (first | (refine LStep_indexPart0 (T := Try.tab) rfl rfl rfl rfl rfl rfl rfl ?_ hlt; (rw [List.length_map]; omega)) | (refine LStep_indexOwnM (T := Try.tab) rfl rfl rfl rfl rfl rfl rfl ?_ ?_; (rw [List.length_map]; omega); (rw [List.length_map]; omega)) | (refine LStep_loadEM (T := Try.tab) rfl rfl rfl rfl rfl ?_ hj rfl; (rw [List.length_map]; omega)) | (refine LStep_loadEM (T := Try.tab) rfl rfl rfl rfl rfl ?_ hv rfl; (rw [List.length_map]; omega)))) | (((with_reducible refine gS ?_); apply Es_xn); rfl; rfl; (refine LStep_storeEM (T := Try.tab) rfl rfl rfl rfl rfl rfl rfl rfl ?_ hv rfl; (rw [List.length_map]; omega)); rfl) | (((with_reducible refine gS ?_); apply Es_q); rfl; rfl; (refine LStep_add rfl rfl rfl rfl ?_; (refine IntWalk.i64_in _ ?_; first | omega | (simp only [cmps] at *; omega)))) | (with_reducible refine Es_nil ?_) | (with_reducible refine then_n ?_) | (with_reducible refine block_n ?_))
    all_goals first
      | (refine ⟨k + 1, by omega, by omega, by (repeat' (first | exact trivial | exact rfl | (refine ⟨Or.inl rfl, ?_⟩) | (refine ⟨Or.inr rfl, ?_⟩) | (refine ⟨Or.inr trivial, ?_⟩) | (refine ⟨rfl, ?_⟩) | (refine ⟨?_, ?_⟩))), by (repeat' (first | exact trivial | exact rfl | (refine ⟨Or.inl rfl, ?_⟩) | (refine ⟨Or.inr rfl, ?_⟩) | (refine ⟨Or.inr trivial, ?_⟩) | (refine ⟨rfl, ?_⟩) | (refine ⟨?_, ?_⟩))), ?_, by (repeat' (first | exact trivial | exact rfl | (refine ⟨Or.inl rfl, ?_⟩) | (refine ⟨Or.inr rfl, ?_⟩) | (refine ⟨Or.inr trivial, ?_⟩) | (refine ⟨rfl, ?_⟩) | (refine ⟨?_, ?_⟩)))⟩
         rw [hL', ← e1]; (repeat' (first | exact trivial | exact rfl | (refine ⟨Or.inl rfl, ?_⟩) | (refine ⟨Or.inr rfl, ?_⟩) | (refine ⟨Or.inr trivial, ?_⟩) | (refine ⟨rfl, ?_⟩) | (refine ⟨?_, ?_⟩))))
      | trace_state
  have : k = lv := by omega
  subst this
  have g4 : ltb (k : Nat) (k : Nat) = false := by rw [ltb_f]; omega
  repeat' (first | ((with_reducible refine gRc ?_); refine AW_freeze [4] (id := 30) ⟨rfl, trivial⟩ rfl (show (List.map nN (bump qs (ord.take k))).length = ws.length by rw [List.length_map]; omega) ?_) | ((with_reducible refine gA ?_); (first | refine AW_seq ?_ | refine AW_region ?_ | (refine AW_condN rfl ?_ ?_; assumption) | refine AW_ret ?_ | refine AW_exit ?_)) | ((with_reducible refine gS ?_); refine Es_s (T := Try.tab) rfl rfl rfl rfl ?_) | (with_reducible refine Es_nil ?_) | (with_reducible refine then_n ?_) | (with_reducible refine then_e ?_) | ((with_reducible refine block_e ?_ ?_); rfl) | ((with_reducible refine gR ?_); first | refine ret1 rfl ?_ | refine ret2 rfl rfl ?_ | refine ret0 ?_ | refine end1 rfl ?_ | refine end0 ?_))
  all_goals first
    | rfl
    | trace_state
end Go.Proofs.Ytldfncafkdmoiaa
