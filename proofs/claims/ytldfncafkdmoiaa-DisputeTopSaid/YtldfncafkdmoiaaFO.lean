import Derived.Test.YtldfncafkdmoiaaFN
import Derived.Test.YtldfncafkdmoiaaFK
namespace Go.Proofs.Ytldfncafkdmoiaa
open Go.SL
/-! ### Award -/
theorem akeys_len {α : Type} (T : List (ByteArray × α)) : (akeys T).length = T.length := List.length_map _
theorem aput_lenle {k : ByteArray} {c : Cl} (T : List (ByteArray × Cl)) : (aput k c T).length ≤ T.length + 1 := by
  rw [← akeys_len (aput k c T), akeys_put]
  by_cases hm : k ∈ akeys T
  · rw [if_pos hm, akeys_len]; omega
  · rw [if_neg hm, List.length_append, akeys_len]; simp
theorem stepM_len (T : List (ByteArray × Cl)) (c : Cl) : (stepM T c).length ≤ T.length + 1 := by
  unfold stepM
  split
  · exact aput_lenle T
  · split
    · exact aput_lenle T
    · omega
theorem bestM_len (l : List Cl) : ∀ k, k ≤ l.length → (bestM (l.take k)).length ≤ k := by
  intro k
  induction k with
  | zero => intro _; simp [bestM]
  | succ k ih =>
    intro hk
    obtain ⟨x, hx, _⟩ := drop_at (l := l) (k := k) (by omega)
    rw [take_at hx, bestM_snoc]
    have h1 := stepM_len (bestM (l.take k)) x
    have h2 := ih (by omega)
    omega
set_option maxRecDepth 10000 in
set_option maxHeartbeats 8000000 in
theorem award_ac (l : List Cl) (hl : l.length ≤ 4096) (hm : l.all mayC = true) : AC Try.prog 22 [.d (.sl 5 (l.map Cl.enc))] [] [] (fun r _ => r = .tup [.d (.sl 2 ((awardL l).map awE)), .d (.sc (.int .i64 0))]) := by
  have cw := wrong_ac l hl
  rw [show wrongC l = 0 from if_pos hm] at cw
  refine AC_enter Try.func22 rfl Try.ntmps22 (rv := [.tmp 2, .tmp 3]) rfl rfl (by simp) (fun w X G => ?_)
  repeat' (first | ((with_reducible refine gA ?_); (first | refine AW_seq ?_ | refine AW_region ?_ | (refine AW_cond rfl (fun hc => ?_) (fun hc => ?_) <;> try (exfalso; simp only [cmpL] at hc; omega)) | refine AW_block ?_ | refine AW_skip ?_)) | ((with_reducible refine gS ?_); refine Es_s (T := Try.tab) rfl rfl rfl rfl ?_) | (((with_reducible refine gS ?_); apply Es_q); rfl; rfl; refine LStep_call (cw) rfl rfl rfl rfl) | (((with_reducible refine gS ?_); apply Es_xs); rfl; rfl; refine LStep_makeMap (kt := 9) (et := 23) rfl rfl rfl rfl; rfl) | (((with_reducible refine gS ?_); apply Es_q); rfl; rfl; refine LStep_lenM (T := Try.tab) rfl rfl rfl rfl) | (with_reducible refine Es_nil ?_) | (with_reducible refine then_n ?_))
  refine AW_forE (S := Nat) (fun k => k ≤ l.length) (fun k => [(21, .d (.sc (.int .i64 (k : Nat))))]) (fun k => [(18, some (.map 9 23 (emap sV cV (bestM (l.take k))) none))]) (fun k => l.length - k) 0 (by omega) (by (repeat' (first | exact trivial | exact rfl | (refine ⟨Or.inl rfl, ?_⟩) | (refine ⟨Or.inr rfl, ?_⟩) | (refine ⟨Or.inr trivial, ?_⟩) | (refine ⟨rfl, ?_⟩) | (refine ⟨?_, ?_⟩)))) (by (repeat' (first | exact trivial | exact rfl | (refine ⟨Or.inl rfl, ?_⟩) | (refine ⟨Or.inr rfl, ?_⟩) | (refine ⟨Or.inr trivial, ?_⟩) | (refine ⟨rfl, ?_⟩) | (refine ⟨?_, ?_⟩)))) ?_
  intro k hk
  by_cases hlt : k < l.length
  · obtain ⟨x, hx, _⟩ := drop_at hlt
    have g3 : ltb (k : Nat) (l.length : Nat) = true := by rw [ltb_t]; omega
    have hst : bestM (l.take (k + 1)) = stepM (bestM (l.take k)) x := by rw [take_at hx, bestM_snoc]
    have hpu := mput_emap (cv := cV) sV_keq x.th x (bestM (l.take k))
    have hmf := mfind_emap (cv := cV) sV_keq x.th (bestM (l.take k))
    generalize hT' : bestM (l.take (k + 1)) = T' at *
    generalize bestM (l.take k) = T at *
    unfold stepM at hst
    cases hq : aget x.th T with
    | none =>
      rw [hq] at hst hmf
      dsimp only [Option.map] at hst hmf
      rw [← hst] at hpu
      repeat' (first | ((with_reducible refine gA ?_); (first | refine AW_seq ?_ | refine AW_region ?_ | refine AW_condT rfl ?_ | (refine AW_condY rfl ?_ ?_; assumption) | refine AW_block ?_ | refine AW_skip ?_)) | ((with_reducible refine gS ?_); refine Es_s (T := Try.tab) rfl rfl rfl rfl ?_) | (((with_reducible refine gS ?_); apply Es_q); rfl; rfl; refine LStep_lookupNoZ (T := Try.tab) rfl rfl rfl rfl rfl rfl rfl rfl rfl rfl (s_keys _) hmf) | (((with_reducible refine gS ?_); apply Es_xn); rfl; rfl; refine LStep_mapUpdate (T := Try.tab) rfl rfl rfl rfl rfl rfl rfl rfl rfl (s_keys _) rfl; rfl) | (((with_reducible refine gS ?_); apply Es_q); rfl; rfl; (first | (refine LStep_add rfl rfl rfl rfl ?_; (refine IntWalk.i64_in _ ?_; first | omega | (simp only [cmps] at *; omega))) | (refine LStep_indexM (T := Try.tab) (c := ?_) rfl rfl rfl rfl rfl rfl ?_; rotate_left; assumption))) | (refine Es_skip rfl ?_ rfl ?_; (first | rfl | (refine w_tf ?_; assumption) | (refine w_ft ?_; assumption))) | (((with_reducible refine gS ?_); apply Es_xs); rfl; rfl; refine LStep_allocN (T := Try.tab) rfl rfl rfl rfl rfl rfl; rfl) | (((with_reducible refine gS ?_); apply Es_xn); rfl; rfl; (refine LStep_storeN (T := Try.tab) rfl rfl rfl rfl rfl rfl rfl ?_ rfl; (refine Nat.le_of_ble_eq_true ?_; rfl)); rfl) | (with_reducible refine Es_nil ?_) | (with_reducible refine then_n ?_) | (with_reducible refine block_n ?_))
      all_goals first
        | (refine ⟨k + 1, by omega, by omega, by (repeat' (first | exact trivial | exact rfl | (refine ⟨Or.inl rfl, ?_⟩) | (refine ⟨Or.inr rfl, ?_⟩) | (refine ⟨Or.inr trivial, ?_⟩) | (refine ⟨rfl, ?_⟩) | (refine ⟨?_, ?_⟩))), by (repeat' (first | exact trivial | exact rfl | (refine ⟨Or.inl rfl, ?_⟩) | (refine ⟨Or.inr rfl, ?_⟩) | (refine ⟨Or.inr trivial, ?_⟩) | (refine ⟨rfl, ?_⟩) | (refine ⟨?_, ?_⟩))), ?_, by (repeat' (first | exact trivial | exact rfl | (refine ⟨Or.inl rfl, ?_⟩) | (refine ⟨Or.inr rfl, ?_⟩) | (refine ⟨Or.inr trivial, ?_⟩) | (refine ⟨rfl, ?_⟩) | (refine ⟨?_, ?_⟩)))⟩
           rw [hT', ← hpu]; (repeat' (first | exact trivial | exact rfl | (refine ⟨Or.inl rfl, ?_⟩) | (refine ⟨Or.inr rfl, ?_⟩) | (refine ⟨Or.inr trivial, ?_⟩) | (refine ⟨rfl, ?_⟩) | (refine ⟨?_, ?_⟩))))
        | trace_state
    | some o =>
      rw [hq] at hst hmf
      dsimp only [Option.map] at hst hmf
      have cb := better_ac x o
      cases hlt2 : ltJ x o with
      | true =>
        rw [hlt2, if_pos rfl] at hst
        rw [← hst] at hpu
        have g4 : ltb 0 (-(jdg x o)) = true := by rw [ltb_t]; unfold ltJ at hlt2; rw [decide_eq_true_eq] at hlt2; omega
        generalize jdg x o = j at *
        repeat' (first | ((with_reducible refine gA ?_); (first | refine AW_seq ?_ | refine AW_region ?_ | (refine AW_condY rfl ?_ ?_; assumption) | refine AW_block ?_ | refine AW_skip ?_)) | ((with_reducible refine gS ?_); refine Es_s (T := Try.tab) rfl rfl rfl rfl ?_) | (((with_reducible refine gS ?_); apply Es_q); rfl; rfl; (first | refine LStep_lookupOk (T := Try.tab) rfl rfl rfl rfl rfl rfl rfl rfl (s_keys _) hmf | refine LStep_call (cb) rfl rfl rfl rfl)) | (((with_reducible refine gS ?_); apply Es_xn); rfl; rfl; refine LStep_mapUpdate (T := Try.tab) rfl rfl rfl rfl rfl rfl rfl rfl rfl (s_keys _) rfl; rfl) | (((with_reducible refine gS ?_); apply Es_q); rfl; rfl; (first | refine LStep_simp (T := Try.tab) rfl rfl | (refine LStep_add rfl rfl rfl rfl ?_; (refine IntWalk.i64_in _ ?_; first | omega | (simp only [cmps] at *; omega))) | (refine LStep_indexM (T := Try.tab) (c := ?_) rfl rfl rfl rfl rfl rfl ?_; rotate_left; assumption))) | (refine Es_skip rfl ?_ rfl ?_; (first | rfl | (refine w_tf ?_; assumption) | (refine w_ft ?_; assumption))) | (((with_reducible refine gS ?_); apply Es_xs); rfl; rfl; refine LStep_allocN (T := Try.tab) rfl rfl rfl rfl rfl rfl; rfl) | (((with_reducible refine gS ?_); apply Es_xn); rfl; rfl; (refine LStep_storeN (T := Try.tab) rfl rfl rfl rfl rfl rfl rfl ?_ rfl; (refine Nat.le_of_ble_eq_true ?_; rfl)); rfl) | (with_reducible refine Es_nil ?_) | (with_reducible refine then_n ?_) | (with_reducible refine block_n ?_))
        all_goals first
          | (refine ⟨k + 1, by omega, by omega, by (repeat' (first | exact trivial | exact rfl | (refine ⟨Or.inl rfl, ?_⟩) | (refine ⟨Or.inr rfl, ?_⟩) | (refine ⟨Or.inr trivial, ?_⟩) | (refine ⟨rfl, ?_⟩) | (refine ⟨?_, ?_⟩))), by (repeat' (first | exact trivial | exact rfl | (refine ⟨Or.inl rfl, ?_⟩) | (refine ⟨Or.inr rfl, ?_⟩) | (refine ⟨Or.inr trivial, ?_⟩) | (refine ⟨rfl, ?_⟩) | (refine ⟨?_, ?_⟩))), ?_, by (repeat' (first | exact trivial | exact rfl | (refine ⟨Or.inl rfl, ?_⟩) | (refine ⟨Or.inr rfl, ?_⟩) | (refine ⟨Or.inr trivial, ?_⟩) | (refine ⟨rfl, ?_⟩) | (refine ⟨?_, ?_⟩)))⟩
             rw [hT', ← hpu]; (repeat' (first | exact trivial | exact rfl | (refine ⟨Or.inl rfl, ?_⟩) | (refine ⟨Or.inr rfl, ?_⟩) | (refine ⟨Or.inr trivial, ?_⟩) | (refine ⟨rfl, ?_⟩) | (refine ⟨?_, ?_⟩))))
          | trace_state
      | false =>
        rw [hlt2, if_neg (by decide)] at hst
        have g4 : ltb 0 (-(jdg x o)) = false := by rw [ltb_f]; unfold ltJ at hlt2; rw [decide_eq_false_iff_not] at hlt2; omega
        generalize jdg x o = j at *
        repeat' (first | ((with_reducible refine gA ?_); (first | refine AW_seq ?_ | refine AW_region ?_ | (refine AW_condY rfl ?_ ?_; assumption) | (refine AW_condN rfl ?_ ?_; assumption) | refine AW_block ?_ | refine AW_skip ?_)) | ((with_reducible refine gS ?_); refine Es_s (T := Try.tab) rfl rfl rfl rfl ?_) | (((with_reducible refine gS ?_); apply Es_q); rfl; rfl; (first | refine LStep_lookupOk (T := Try.tab) rfl rfl rfl rfl rfl rfl rfl rfl (s_keys _) hmf | refine LStep_call (cb) rfl rfl rfl rfl)) | (((with_reducible refine gS ?_); apply Es_q); rfl; rfl; (first | refine LStep_simp (T := Try.tab) rfl rfl | (refine LStep_add rfl rfl rfl rfl ?_; (refine IntWalk.i64_in _ ?_; first | omega | (simp only [cmps] at *; omega))) | (refine LStep_indexM (T := Try.tab) (c := ?_) rfl rfl rfl rfl rfl rfl ?_; rotate_left; assumption))) | (refine Es_skip rfl ?_ rfl ?_; (first | rfl | (refine w_tf ?_; assumption) | (refine w_ft ?_; assumption))) | (((with_reducible refine gS ?_); apply Es_xs); rfl; rfl; refine LStep_allocN (T := Try.tab) rfl rfl rfl rfl rfl rfl; rfl) | (((with_reducible refine gS ?_); apply Es_xn); rfl; rfl; (refine LStep_storeN (T := Try.tab) rfl rfl rfl rfl rfl rfl rfl ?_ rfl; (refine Nat.le_of_ble_eq_true ?_; rfl)); rfl) | (with_reducible refine Es_nil ?_) | (with_reducible refine then_n ?_) | (with_reducible refine block_n ?_))
        all_goals first
          | (refine ⟨k + 1, by omega, by omega, by (repeat' (first | exact trivial | exact rfl | (refine ⟨Or.inl rfl, ?_⟩) | (refine ⟨Or.inr rfl, ?_⟩) | (refine ⟨Or.inr trivial, ?_⟩) | (refine ⟨rfl, ?_⟩) | (refine ⟨?_, ?_⟩))), by (repeat' (first | exact trivial | exact rfl | (refine ⟨Or.inl rfl, ?_⟩) | (refine ⟨Or.inr rfl, ?_⟩) | (refine ⟨Or.inr trivial, ?_⟩) | (refine ⟨rfl, ?_⟩) | (refine ⟨?_, ?_⟩))), ?_, by (repeat' (first | exact trivial | exact rfl | (refine ⟨Or.inl rfl, ?_⟩) | (refine ⟨Or.inr rfl, ?_⟩) | (refine ⟨Or.inr trivial, ?_⟩) | (refine ⟨rfl, ?_⟩) | (refine ⟨?_, ?_⟩)))⟩
             rw [hT', hst]; (repeat' (first | exact trivial | exact rfl | (refine ⟨Or.inl rfl, ?_⟩) | (refine ⟨Or.inr rfl, ?_⟩) | (refine ⟨Or.inr trivial, ?_⟩) | (refine ⟨rfl, ?_⟩) | (refine ⟨?_, ?_⟩))))
          | trace_state
  have : k = l.length := by omega
  subst this
  have g3 : ltb (l.length : Nat) (l.length : Nat) = false := by rw [ltb_f]; omega
  have hbl := bestM_len l l.length (Nat.le_refl _)
  have hsp := bestM_spec l
  have hkey := fun t => bestM_key (l := l) (t := t)
  have had : awardL l = (sortS (akeys (bestM l))).map (fun t => (t, ((aget t (bestM l)).getD zC).nm)) := rfl
  rw [List.take_length] at hbl ⊢
  rw [had]
  clear had hkey
  have hnd := hsp.1
  clear hsp
  generalize bestM l = T at *
  have hK : ∀ t ∈ sortS (akeys T), ∃ c, aget t T = some c := fun t ht => by
    have h1 := (sortS_perm _).mem_iff.1 ht
    cases hq : aget t T with
    | some c => exact ⟨c, rfl⟩
    | none => exact absurd h1 (aget_none.1 hq)
  have hKl : (sortS (akeys T)).length = T.length := by rw [(sortS_perm _).length_eq]; simp [akeys]
  have ck := keys_ac T
  have cs := sorted_ac T hnd (by omega)
  have hel := emap_len (kv := sV) (cv := cV) T
  unfold itK at cs
  generalize sortS (akeys T) = K at *
  repeat' (first | ((with_reducible refine gA ?_); (first | refine AW_seq ?_ | refine AW_region ?_ | (refine AW_condN rfl ?_ ?_; assumption) | refine AW_block ?_ | refine AW_exit ?_)) | ((with_reducible refine gS ?_); refine Es_s (T := Try.tab) rfl rfl rfl rfl ?_) | (((with_reducible refine gS ?_); apply Es_q); rfl; rfl; (first | refine LStep_lenMap (T := Try.tab) rfl rfl rfl rfl rfl | refine LStep_lenOwn (T := Try.tab) rfl rfl rfl rfl rfl rfl)) | (((with_reducible refine gS ?_); apply Es_xs); rfl; rfl; (refine LStep_makeOwn (T := Try.tab) rfl rfl rfl rfl rfl rfl rfl rfl rfl rfl ?_ ?_ ?_ ?_; omega; omega; omega; omega); rfl) | (((with_reducible refine gS ?_); apply Es_xg); rfl; rfl; (first | refine LStep_callHN [(1003, 18)] [(1, 49)] ck rfl rfl ⟨rfl, trivial⟩ rfl ⟨trivial, trivial⟩ rfl rfl | refine LStep_callHN [(1000, 49), (1003, 18)] [(5, 50)] cs rfl rfl ⟨rfl, rfl, trivial⟩ rfl ⟨trivial, trivial, trivial⟩ rfl rfl); rfl) | (with_reducible refine Es_nil ?_) | (with_reducible refine then_n ?_) | (with_reducible refine then_e ?_) | ((with_reducible refine block_e ?_ ?_); rfl))
  refine AW_forE (S := Nat) (fun k => k ≤ K.length) (fun k => [(52, .d (.sc (.int .i64 (k : Nat)))), (10, .own 47 ((K.take k).map fun t => awE (t, ((aget t T).getD zC).nm)).length)]) (fun k => [(47, some (.arr 49 2 ((K.take k).map fun t => awE (t, ((aget t T).getD zC).nm))))]) (fun k => K.length - k) 0 (by omega) (by (repeat' (first | exact trivial | exact rfl | (refine ⟨Or.inl rfl, ?_⟩) | (refine ⟨Or.inr rfl, ?_⟩) | (refine ⟨Or.inr trivial, ?_⟩) | (refine ⟨rfl, ?_⟩) | (refine ⟨?_, ?_⟩)))) (by (repeat' (first | exact trivial | exact rfl | (refine ⟨Or.inl rfl, ?_⟩) | (refine ⟨Or.inr rfl, ?_⟩) | (refine ⟨Or.inr trivial, ?_⟩) | (refine ⟨rfl, ?_⟩) | (refine ⟨?_, ?_⟩)))) ?_
  intro k hk
  by_cases hlt : k < K.length
  · obtain ⟨t, ht, _⟩ := drop_at hlt
    obtain ⟨c, hc⟩ := hK t (List.mem_of_getElem? ht)
    have g4 : ltb (k : Nat) ((K.map sN).length : Nat) = true := by rw [ltb_t, List.length_map]; omega
    have hmf := mfind_emap (cv := cV) sV_keq t T
    rw [hc] at hmf
    dsimp only [Option.map] at hmf
    have hst : ((K.take (k + 1)).map fun t => awE (t, ((aget t T).getD zC).nm)) = ((K.take k).map fun t => awE (t, ((aget t T).getD zC).nm)) ++ [awE (t, c.nm)] := by
      rw [take_at ht, List.map_append, List.map_singleton, hc]; rfl
    have hlk : ((K.take k).map fun t => awE (t, ((aget t T).getD zC).nm)).length = k := by rw [List.length_map, List.length_take]; omega
    generalize hL' : ((K.take (k + 1)).map fun t => awE (t, ((aget t T).getD zC).nm)) = L' at *
    generalize ((K.take k).map fun t => awE (t, ((aget t T).getD zC).nm)) = L at *
    repeat' (first | ((with_reducible refine gA ?_); (first | refine AW_seq ?_ | refine AW_region ?_ | (refine AW_condY rfl ?_ ?_; assumption) | refine AW_block ?_ | refine AW_skip ?_)) | ((with_reducible refine gS ?_); refine Es_s (T := Try.tab) rfl rfl rfl rfl ?_) | (((with_reducible refine gS ?_); apply Es_q); rfl; rfl; (first | (refine LStep_indexOwnM (T := Try.tab) rfl rfl rfl rfl rfl rfl rfl rfl ?_; (first | omega | (simp only [List.length_map]; omega))) | (refine LStep_loadEM (T := Try.tab) (c := ?_) rfl rfl rfl rfl rfl rfl ?_ rfl; rotate_left; assumption) | refine LStep_lookup (T := Try.tab) rfl rfl rfl rfl rfl rfl rfl rfl (s_keys _) hmf)) | (((with_reducible refine gS ?_); apply Es_xs); rfl; rfl; (refine LStep_append (T := Try.tab) rfl rfl rfl rfl rfl rfl rfl rfl rfl rfl ?_ ?_ ?_; rfl; (simp only [List.length_map, List.length_cons, List.length_nil]; omega); (unfold maxLen; simp only [List.length_map, List.length_cons, List.length_nil]; omega)); rfl) | (((with_reducible refine gS ?_); apply Es_q); rfl; rfl; (first | (refine LStep_add rfl rfl rfl rfl ?_; (refine IntWalk.i64_in _ ?_; first | omega | (simp only [cmps] at *; omega))) | (refine LStep_lit (T := Try.tab) rfl rfl rfl rfl rfl rfl rfl rfl ?_; (refine Nat.le_of_ble_eq_true ?_; rfl)) | refine LStep_buildN (T := Try.tab) rfl rfl rfl rfl rfl rfl rfl)) | (with_reducible refine Es_nil ?_) | (with_reducible refine then_n ?_) | (with_reducible refine block_n ?_))
    all_goals first
      | (refine ⟨k + 1, by omega, by omega, ?_, by (repeat' (first | exact trivial | exact rfl | (refine ⟨Or.inl rfl, ?_⟩) | (refine ⟨Or.inr rfl, ?_⟩) | (refine ⟨Or.inr trivial, ?_⟩) | (refine ⟨rfl, ?_⟩) | (refine ⟨?_, ?_⟩))), ?_, by (repeat' (first | exact trivial | exact rfl | (refine ⟨Or.inl rfl, ?_⟩) | (refine ⟨Or.inr rfl, ?_⟩) | (refine ⟨Or.inr trivial, ?_⟩) | (refine ⟨rfl, ?_⟩) | (refine ⟨?_, ?_⟩)))⟩
         · rw [hL', hst]; (repeat' (first | exact trivial | exact rfl | (refine ⟨Or.inl rfl, ?_⟩) | (refine ⟨Or.inr rfl, ?_⟩) | (refine ⟨Or.inr trivial, ?_⟩) | (refine ⟨rfl, ?_⟩) | (refine ⟨?_, ?_⟩)))
         · rw [hL', hst]; (repeat' (first | exact trivial | exact rfl | (refine ⟨Or.inl rfl, ?_⟩) | (refine ⟨Or.inr rfl, ?_⟩) | (refine ⟨Or.inr trivial, ?_⟩) | (refine ⟨rfl, ?_⟩) | (refine ⟨?_, ?_⟩))))
      | trace_state
  have : k = K.length := by omega
  subst this
  have g4 : ltb (K.length : Nat) ((K.map sN).length : Nat) = false := by rw [ltb_f, List.length_map]; omega
  rw [List.take_length]
  repeat' (first | ((with_reducible refine gRc ?_); refine AW_freeze [2] (id := 47) ⟨rfl, trivial⟩ rfl rfl ?_) | ((with_reducible refine gA ?_); (first | refine AW_seq ?_ | refine AW_region ?_ | (refine AW_condN rfl ?_ ?_; assumption) | refine AW_ret ?_ | refine AW_exit ?_)) | ((with_reducible refine gS ?_); refine Es_s (T := Try.tab) rfl rfl rfl rfl ?_) | (with_reducible refine Es_nil ?_) | (with_reducible refine then_n ?_) | (with_reducible refine then_e ?_) | ((with_reducible refine block_e ?_ ?_); rfl) | ((with_reducible refine gR ?_); first | refine ret1 rfl ?_ | refine ret2 rfl rfl ?_ | refine ret0 ?_ | refine end1 rfl ?_ | refine end0 ?_))
  all_goals first
    | (rw [List.map_map]; rfl)
    | rfl
    | trace_state
end Go.Proofs.Ytldfncafkdmoiaa
