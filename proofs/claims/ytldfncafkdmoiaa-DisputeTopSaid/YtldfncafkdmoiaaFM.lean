import Derived.Test.YtldfncafkdmoiaaFL
namespace Go.Proofs.Ytldfncafkdmoiaa
open Go.SL
/-! ### Money: the walk -/
theorem mayC_of {x : Cl} (h : mayC x = true) : nameOk x.nm = true ∧ nameOk x.th = true ∧ 0 ≤ x.rt ∧ x.rt ≤ 4 ∧ 0 ≤ x.dy ∧ x.dy ≤ 1048576 ∧ 0 ≤ x.am ∧ x.am ≤ 1099511627776 := by
  simpa [mayC] using h
set_option maxRecDepth 10000 in
set_option maxHeartbeats 8000000 in
theorem money_ac (t : Nat) (l : List Cl) (ht : t ≤ 1099511627776) (hl : l.length ≤ 4096) (hm : l.all mayC = true) (hSp : spl l t) :
    AC Try.prog 18 [.d (.sc (.int .i64 ((t : Nat) : Int))), .d (.sl 5 (l.map Cl.enc))] [] [] (fun r _ => r = .tup [.d (.sl 1 ((monN l t 5).1.map nN)), .d (.sc (.int .i64 (((monN l t 5).2 : Nat) : Int))), .d (.sc (.int .i64 0))]) := by
  have cw := wrong_ac l hl
  rw [show wrongC l = 0 from if_pos hm] at cw
  have hmm : ∀ x ∈ l, 0 ≤ x.am ∧ x.am ≤ 1099511627776 := fun x hx => by
    have := mayC_of (List.all_eq_true.1 hm x hx)
    exact ⟨this.2.2.2.2.2.2.1, this.2.2.2.2.2.2.2⟩
  have g0 : ltb ((t : Nat) : Int) 0 = false := by rw [ltb_f]; omega
  have g1 : ltb 1099511627776 ((t : Nat) : Int) = false := by rw [ltb_f]; omega
  have z1 : (monN l t 0).1.map nN = List.replicate l.length [D.sc (.int .i64 0)] := by
    show (List.replicate l.length 0).map nN = _
    rw [List.map_replicate]; rfl
  refine AC_enter Try.func18 rfl Try.ntmps18 (rv := [.tmp 4, .tmp 5, .tmp 6]) rfl rfl (by simp) (fun w X G => ?_)
  repeat' (first | ((with_reducible refine gA ?_); (first | refine AW_seq ?_ | refine AW_region ?_ | (refine AW_condN rfl ?_ ?_; assumption) | (refine AW_cond rfl (fun hc => ?_) (fun hc => ?_) <;> try (exfalso; simp only [cmpL] at hc; omega)) | refine AW_block ?_ | refine AW_skip ?_)) | ((with_reducible refine gS ?_); refine Es_s (T := Try.tab) rfl rfl rfl rfl ?_) | (((with_reducible refine gS ?_); apply Es_q); rfl; (first | rfl | (refine w_ff ?_; assumption)); refine LStep_call (cw) rfl rfl rfl rfl) | (((with_reducible refine gS ?_); apply Es_xs); rfl; (first | rfl | (refine w_ff ?_; assumption)); (refine LStep_makeOwn (T := Try.tab) rfl rfl rfl rfl rfl rfl rfl rfl rfl rfl ?_ ?_ ?_ ?_; omega; omega; omega; omega); rfl) | (((with_reducible refine gS ?_); apply Es_q); rfl; (first | rfl | (refine w_ff ?_; assumption)); (first | refine LStep_simp (T := Try.tab) rfl rfl | refine LStep_lenM (T := Try.tab) rfl rfl rfl rfl | (refine LStep_pickF rfl rfl ?_ rfl rfl; assumption))) | (with_reducible refine Es_nil ?_) | (with_reducible refine then_n ?_))
  simp only [Int.toNat_natCast]
  refine AW_forE (S := Nat) (fun r => r ≤ 5) (fun r => [(9, .d (.sc (.int .i64 (r : Nat)))), (0, .d (.sc (.int .i64 (((monN l t r).2 : Nat) : Int))))]) (fun r => [(33, some (.arr 2 1 ((monN l t r).1.map nN)))]) (fun r => 5 - r) 0 (by omega) (by (repeat' (first | exact trivial | exact rfl | (refine ⟨Or.inl rfl, ?_⟩) | (refine ⟨Or.inr rfl, ?_⟩) | (refine ⟨Or.inr trivial, ?_⟩) | (refine ⟨rfl, ?_⟩) | (refine ⟨?_, ?_⟩)))) (by rw [z1]; (repeat' (first | exact trivial | exact rfl | (refine ⟨Or.inl rfl, ?_⟩) | (refine ⟨Or.inr rfl, ?_⟩) | (refine ⟨Or.inr trivial, ?_⟩) | (refine ⟨rfl, ?_⟩) | (refine ⟨?_, ?_⟩)))) ?_
  clear z1 cw
  intro r hr
  by_cases hr5 : r < 5
  · have g2 : leb ((r : Nat) : Int) 4 = true := by rw [leb_t]; omega
    have e1 : (monN l t (r + 1)).1 = putP (monN l t r).1 ((plcF ((r : Nat) : Int) l 0).zip (partsOf (monN l t r).2 (wtsF ((r : Nat) : Int) l))) := rfl
    have e2 : (monN l t (r + 1)).2 = (monN l t r).2 - (partsOf (monN l t r).2 (wtsF ((r : Nat) : Int) l)).sum := rfl
    have o1 := monN_len l t r
    have o2 := monN_le l t r
    generalize hfo : (monN l t (r + 1)).1 = o' at *
    generalize hfp : (monN l t (r + 1)).2 = p' at *
    generalize (monN l t r).1 = o at *
    generalize (monN l t r).2 = p at *
    repeat' (first | ((with_reducible refine gA ?_); (first | refine AW_seq ?_ | refine AW_region ?_ | (refine AW_condY rfl ?_ ?_; assumption) | refine AW_block ?_ | refine AW_skip ?_)) | ((with_reducible refine gS ?_); refine Es_s (T := Try.tab) rfl rfl rfl rfl ?_) | (((with_reducible refine gS ?_); apply Es_q); rfl; rfl; refine LStep_lenM (T := Try.tab) rfl rfl rfl rfl) | (with_reducible refine Es_nil ?_) | (with_reducible refine then_n ?_))
    refine AW_openNil (t := 10) (id := 2010) (e := 3) (sz := 1) rfl rfl rfl rfl ?_
    refine AW_openNil (t := 11) (id := 2011) (e := 2) (sz := 1) rfl rfl rfl rfl ?_
    refine AW_forE (S := Nat) (fun k => k ≤ l.length) (fun k => [(40, .d (.sc (.int .i64 (k : Nat)))), (10, .own 2010 ((plcF ((r : Nat) : Int) (l.take k) 0).map nN).length), (11, .own 2011 ((wtsF ((r : Nat) : Int) (l.take k)).map nN).length), (12, .d (.sc (.int .i64 (((wtsF ((r : Nat) : Int) (l.take k)).sum : Nat) : Int))))])
      (fun k => [(2010, some (.arr 3 1 ((plcF ((r : Nat) : Int) (l.take k) 0).map nN))), (2011, some (.arr 2 1 ((wtsF ((r : Nat) : Int) (l.take k)).map nN)))]) (fun k => l.length - k) 0 (by omega) (by (repeat' (first | exact trivial | exact rfl | (refine ⟨Or.inl rfl, ?_⟩) | (refine ⟨Or.inr rfl, ?_⟩) | (refine ⟨Or.inr trivial, ?_⟩) | (refine ⟨rfl, ?_⟩) | (refine ⟨?_, ?_⟩)))) (by (repeat' (first | exact trivial | exact rfl | (refine ⟨Or.inl rfl, ?_⟩) | (refine ⟨Or.inr rfl, ?_⟩) | (refine ⟨Or.inr trivial, ?_⟩) | (refine ⟨rfl, ?_⟩) | (refine ⟨?_, ?_⟩)))) ?_
    intro k hk
    by_cases hlt : k < l.length
    · obtain ⟨⟨nm, th, rt, dy, am⟩, hx, _⟩ := drop_at hlt
      have hma := hmm _ (List.mem_of_getElem? hx)
      dsimp only at hma
      obtain ⟨a, rfl⟩ : ∃ a : Nat, am = (a : Int) := ⟨am.toNat, by omega⟩
      have g3 : ltb (k : Nat) (l.length : Nat) = true := by rw [ltb_t]; omega
      have s1 := plcF_snoc ((r : Nat) : Int) ⟨nm, th, rt, dy, (a : Int)⟩ (l.take k) 0
      have s2 := wtsF_snoc ((r : Nat) : Int) ⟨nm, th, rt, dy, (a : Int)⟩ (l.take k)
      rw [← take_at hx] at s1 s2
      have hlk : (l.take k).length = k := by rw [List.length_take]; omega
      have hsb : (wtsF ((r : Nat) : Int) (l.take k)).sum ≤ 4503599627370496 := by
        have h1 := sum_le (wtsF ((r : Nat) : Int) (l.take k)) 1099511627776 (fun w hw => by
          obtain ⟨y, hy, e⟩ := wts_mem _ _ w hw
          have := hmm y (List.mem_of_mem_take hy)
          omega)
        have h2 := wts_len ((r : Nat) : Int) (l.take k)
        have h3 : (wtsF ((r : Nat) : Int) (l.take k)).length * 1099511627776 ≤ 4096 * 1099511627776 := Nat.mul_le_mul_right _ (by omega)
        exact Nat.le_trans h1 h3
      have hpw := plc_wts ((r : Nat) : Int) (l.take k) 0
      have hwl := wts_len ((r : Nat) : Int) (l.take k)
      rw [hlk, Nat.zero_add] at s1
      rw [hlk] at hwl
      generalize h1' : plcF ((r : Nat) : Int) (l.take (k + 1)) 0 = A' at *
      generalize h2' : wtsF ((r : Nat) : Int) (l.take (k + 1)) = B' at *
      generalize plcF ((r : Nat) : Int) (l.take k) 0 = A at *
      generalize wtsF ((r : Nat) : Int) (l.take k) = B at *
      by_cases hrt : rt = ((r : Nat) : Int)
      · have g4 : eqb rt ((r : Nat) : Int) = true := eqb_t.2 hrt
        dsimp only at s1 s2
        rw [if_pos hrt] at s1 s2
        rw [Int.toNat_natCast] at s2
        have e3 : A'.map nN = A.map nN ++ [nN k] := by rw [s1, List.map_append]; rfl
        have e4 : B'.map nN = B.map nN ++ [nN a] := by rw [s2, List.map_append]; rfl
        have e5 : B'.sum = B.sum + a := by rw [s2, List.sum_append_nat]; simp
        repeat' (first | ((with_reducible refine gA ?_); (first | refine AW_seq ?_ | refine AW_region ?_ | (refine AW_condY rfl ?_ ?_; assumption) | refine AW_block ?_ | refine AW_skip ?_)) | ((with_reducible refine gS ?_); refine Es_s (T := Try.tab) rfl rfl rfl rfl ?_) | (((with_reducible refine gS ?_); apply Es_xs); rfl; rfl; (refine LStep_append (T := Try.tab) rfl rfl rfl rfl rfl rfl rfl rfl rfl rfl ?_ ?_ ?_; rfl; (simp only [List.length_map, List.length_cons, List.length_nil]; omega); (unfold maxLen; simp only [List.length_map, List.length_cons, List.length_nil]; omega)); rfl) | (((with_reducible refine gS ?_); apply Es_q); rfl; rfl; (first | (refine LStep_add rfl rfl rfl rfl ?_; (refine IntWalk.i64_in _ ?_; first | omega | (simp only [cmps] at *; omega))) | (refine LStep_indexM (T := Try.tab) (c := ?_) rfl rfl rfl rfl rfl rfl ?_; rotate_left; assumption) | (refine LStep_lit (T := Try.tab) rfl rfl rfl rfl rfl rfl rfl rfl ?_; (refine Nat.le_of_ble_eq_true ?_; rfl)))) | (refine Es_skip rfl ?_ rfl ?_; (first | rfl | (refine w_tf ?_; assumption) | (refine w_ft ?_; assumption))) | (((with_reducible refine gS ?_); apply Es_xs); rfl; rfl; refine LStep_allocN (T := Try.tab) rfl rfl rfl rfl rfl rfl; rfl) | (((with_reducible refine gS ?_); apply Es_xn); rfl; rfl; (refine LStep_storeN (T := Try.tab) rfl rfl rfl rfl rfl rfl rfl ?_ rfl; (refine Nat.le_of_ble_eq_true ?_; rfl)); rfl) | (with_reducible refine Es_nil ?_) | (with_reducible refine then_n ?_) | (with_reducible refine block_n ?_))
        all_goals first
          | (refine ⟨k + 1, by omega, by omega, ?_, by (repeat' (first | exact trivial | exact rfl | (refine ⟨Or.inl rfl, ?_⟩) | (refine ⟨Or.inr rfl, ?_⟩) | (refine ⟨Or.inr trivial, ?_⟩) | (refine ⟨rfl, ?_⟩) | (refine ⟨?_, ?_⟩))), ?_, by (repeat' (first | exact trivial | exact rfl | (refine ⟨Or.inl rfl, ?_⟩) | (refine ⟨Or.inr rfl, ?_⟩) | (refine ⟨Or.inr trivial, ?_⟩) | (refine ⟨rfl, ?_⟩) | (refine ⟨?_, ?_⟩)))⟩
             · rw [h1', h2', e3, e4, e5]; (repeat' (first | exact trivial | exact rfl | (refine ⟨Or.inl rfl, ?_⟩) | (refine ⟨Or.inr rfl, ?_⟩) | (refine ⟨Or.inr trivial, ?_⟩) | (refine ⟨rfl, ?_⟩) | (refine ⟨?_, ?_⟩)))
             · rw [h1', h2', e3, e4]; (repeat' (first | exact trivial | exact rfl | (refine ⟨Or.inl rfl, ?_⟩) | (refine ⟨Or.inr rfl, ?_⟩) | (refine ⟨Or.inr trivial, ?_⟩) | (refine ⟨rfl, ?_⟩) | (refine ⟨?_, ?_⟩))))
          | trace_state
      · have g4 : eqb rt ((r : Nat) : Int) = false := eqb_f.2 hrt
        dsimp only at s1 s2
        rw [if_neg hrt, List.append_nil] at s1 s2
        repeat' (first | ((with_reducible refine gA ?_); (first | refine AW_seq ?_ | refine AW_region ?_ | (refine AW_condY rfl ?_ ?_; assumption) | (refine AW_condN rfl ?_ ?_; assumption) | refine AW_block ?_ | refine AW_skip ?_)) | ((with_reducible refine gS ?_); refine Es_s (T := Try.tab) rfl rfl rfl rfl ?_) | (((with_reducible refine gS ?_); apply Es_q); rfl; rfl; (first | (refine LStep_add rfl rfl rfl rfl ?_; (refine IntWalk.i64_in _ ?_; first | omega | (simp only [cmps] at *; omega))) | (refine LStep_indexM (T := Try.tab) (c := ?_) rfl rfl rfl rfl rfl rfl ?_; rotate_left; assumption))) | (refine Es_skip rfl ?_ rfl ?_; (first | rfl | (refine w_tf ?_; assumption) | (refine w_ft ?_; assumption))) | (((with_reducible refine gS ?_); apply Es_xs); rfl; rfl; refine LStep_allocN (T := Try.tab) rfl rfl rfl rfl rfl rfl; rfl) | (((with_reducible refine gS ?_); apply Es_xn); rfl; rfl; (refine LStep_storeN (T := Try.tab) rfl rfl rfl rfl rfl rfl rfl ?_ rfl; (refine Nat.le_of_ble_eq_true ?_; rfl)); rfl) | (with_reducible refine Es_nil ?_) | (with_reducible refine then_n ?_) | (with_reducible refine block_n ?_))
        all_goals first
          | (refine ⟨k + 1, by omega, by omega, ?_, by (repeat' (first | exact trivial | exact rfl | (refine ⟨Or.inl rfl, ?_⟩) | (refine ⟨Or.inr rfl, ?_⟩) | (refine ⟨Or.inr trivial, ?_⟩) | (refine ⟨rfl, ?_⟩) | (refine ⟨?_, ?_⟩))), ?_, by (repeat' (first | exact trivial | exact rfl | (refine ⟨Or.inl rfl, ?_⟩) | (refine ⟨Or.inr rfl, ?_⟩) | (refine ⟨Or.inr trivial, ?_⟩) | (refine ⟨rfl, ?_⟩) | (refine ⟨?_, ?_⟩)))⟩
             · rw [h1', h2', s1, s2]; (repeat' (first | exact trivial | exact rfl | (refine ⟨Or.inl rfl, ?_⟩) | (refine ⟨Or.inr rfl, ?_⟩) | (refine ⟨Or.inr trivial, ?_⟩) | (refine ⟨rfl, ?_⟩) | (refine ⟨?_, ?_⟩)))
             · rw [h1', h2', s1, s2]; (repeat' (first | exact trivial | exact rfl | (refine ⟨Or.inl rfl, ?_⟩) | (refine ⟨Or.inr rfl, ?_⟩) | (refine ⟨Or.inr trivial, ?_⟩) | (refine ⟨rfl, ?_⟩) | (refine ⟨?_, ?_⟩))))
          | trace_state
    have : k = l.length := by omega
    subst this
    have g3 : ltb (l.length : Nat) (l.length : Nat) = false := by rw [ltb_f]; omega
    rw [List.take_length]
    have hW := hSp p (wtsF ((r : Nat) : Int) l) o2
    have hpw := plc_wts ((r : Nat) : Int) l 0
    have hwl := wts_len ((r : Nat) : Int) l
    have hwm := wts_mem ((r : Nat) : Int) l
    have hpl := plc_lt ((r : Nat) : Int) l 0
    have hpsum := parts_sum p (wtsF ((r : Nat) : Int) l)
    have hplen := parts_len p (wtsF ((r : Nat) : Int) l)
    have hpd : partsOf p (wtsF ((r : Nat) : Int) l) = if p < (wtsF ((r : Nat) : Int) l).sum then splitN p (wtsF ((r : Nat) : Int) l) else wtsF ((r : Nat) : Int) l := rfl
    generalize plcF ((r : Nat) : Int) l 0 = pl at *
    generalize wtsF ((r : Nat) : Int) l = W at *
    generalize partsOf p W = P at *
    refine AW_freeze [10] (id := 2010) ⟨rfl, trivial⟩ rfl rfl ?_
    refine AW_freeze [11] (id := 2011) ⟨rfl, trivial⟩ rfl rfl ?_
    by_cases hps : p < W.sum
    · have g5 : ltb ((p : Nat) : Int) ((W.sum : Nat) : Int) = true := by rw [ltb_t]; omega
      have cs := hW (by rintro rfl; simp at hps) hwl hwm hps
      rw [if_pos hps] at hpd
      rw [← hpd] at cs
      clear hW hpd
      repeat' (first | ((with_reducible refine gA ?_); (first | refine AW_seq ?_ | refine AW_region ?_ | (refine AW_condY rfl ?_ ?_; assumption) | (refine AW_condN rfl ?_ ?_; assumption) | refine AW_block ?_ | refine AW_skip ?_ | refine AW_exit ?_)) | ((with_reducible refine gS ?_); refine Es_s (T := Try.tab) rfl rfl rfl rfl ?_) | (((with_reducible refine gS ?_); apply Es_q); rfl; rfl; refine LStep_call (cs) rfl rfl rfl rfl) | (((with_reducible refine gS ?_); apply Es_q); rfl; rfl; refine LStep_lenM (T := Try.tab) rfl rfl rfl rfl) | (with_reducible refine Es_nil ?_) | (with_reducible refine then_n ?_) | (with_reducible refine then_e ?_) | ((with_reducible refine block_e ?_ ?_); rfl))
      refine AW_forE (S := Nat) (fun k => k ≤ pl.length) (fun k => [(79, .d (.sc (.int .i64 (k : Nat)))), (0, .d (.sc (.int .i64 ((p - (P.take k).sum : Nat) : Int))))]) (fun k => [(33, some (.arr 2 1 ((putP o ((pl.zip P).take k)).map nN)))]) (fun k => pl.length - k) 0 (by omega) (by (repeat' (first | exact trivial | exact rfl | (refine ⟨Or.inl rfl, ?_⟩) | (refine ⟨Or.inr rfl, ?_⟩) | (refine ⟨Or.inr trivial, ?_⟩) | (refine ⟨rfl, ?_⟩) | (refine ⟨?_, ?_⟩)))) (by (repeat' (first | exact trivial | exact rfl | (refine ⟨Or.inl rfl, ?_⟩) | (refine ⟨Or.inr rfl, ?_⟩) | (refine ⟨Or.inr trivial, ?_⟩) | (refine ⟨rfl, ?_⟩) | (refine ⟨?_, ?_⟩)))) ?_
      intro k hk
      by_cases hlt : k < pl.length
      · obtain ⟨j, hj, _⟩ := drop_at hlt
        obtain ⟨v, hv, _⟩ := drop_at (l := P) (k := k) (by omega)
        have hjl := hpl j (List.mem_of_getElem? hj)
        have hvP := mem_le_sum (List.mem_of_getElem? hv)
        have hz : (pl.zip P)[k]? = some (j, v) := by rw [List.getElem?_zip_eq_some]; exact ⟨hj, hv⟩
        have hst := putP_snoc o ((pl.zip P).take k) (j, v)
        rw [← take_at hz] at hst
        have hlen := putP_len ((pl.zip P).take k) o
        have hs1 := sum_take_at hv
        have hs2 := sum_take_le P (k + 1)
        have g3 : ltb (k : Nat) (pl.length : Nat) = true := by rw [ltb_t]; omega
        generalize hL' : putP o ((pl.zip P).take (k + 1)) = L' at *
        generalize putP o ((pl.zip P).take k) = L at *
        generalize hu' : (P.take (k + 1)).sum = u' at *
        generalize (P.take k).sum = u at *
        obtain ⟨z, hz0⟩ : ∃ z, L[j]? = some z := ⟨_, List.getElem?_eq_getElem (by omega)⟩
        have e1 : (L.map nN).set j (nN v) = L'.map nN := by rw [← List.map_set, ← hst]
        have hsub : AV.d (.sc (.int .i64 (wrp .i64 (((p - u : Nat) : Int) - ((v : Nat) : Int))))) = AV.d (.sc (.int .i64 ((p - u' : Nat) : Int))) := by
          rw [wrp_fit (by omega)]
          congr 3
          omega
        repeat' (first | ((with_reducible refine gA ?_); (first | refine AW_seq ?_ | refine AW_region ?_ | (refine AW_condY rfl ?_ ?_; assumption) | refine AW_block ?_ | refine AW_skip ?_)) | (((with_reducible refine gS ?_); apply Es_q); rfl; rfl; refine LStep_fitQ (T := Try.tab) rfl rfl hsub) | ((with_reducible refine gS ?_); refine Es_s (T := Try.tab) rfl rfl rfl rfl ?_) | (((with_reducible refine gS ?_); apply Es_q); rfl; rfl; (refine LStep_indexOwnM (T := Try.tab) rfl rfl rfl rfl rfl rfl rfl ?_ ?_; (rw [List.length_map]; omega); (rw [List.length_map]; omega))) | (((with_reducible refine gS ?_); apply Es_xn); rfl; rfl; (refine LStep_storeEM (T := Try.tab) rfl rfl rfl rfl rfl rfl rfl rfl ?_ hz0 rfl; (rw [List.length_map]; omega)); rfl) | (((with_reducible refine gS ?_); apply Es_q); rfl; rfl; (first | (refine LStep_add rfl rfl rfl rfl ?_; (refine IntWalk.i64_in _ ?_; first | omega | (simp only [cmps] at *; omega))) | (refine LStep_indexM (T := Try.tab) (c := ?_) rfl rfl rfl rfl rfl rfl ?_; rotate_left; assumption))) | (with_reducible refine Es_nil ?_) | (with_reducible refine then_n ?_) | (with_reducible refine block_n ?_))
        all_goals first
          | (refine ⟨k + 1, by omega, by omega, ?_, by (repeat' (first | exact trivial | exact rfl | (refine ⟨Or.inl rfl, ?_⟩) | (refine ⟨Or.inr rfl, ?_⟩) | (refine ⟨Or.inr trivial, ?_⟩) | (refine ⟨rfl, ?_⟩) | (refine ⟨?_, ?_⟩))), ?_, by (repeat' (first | exact trivial | exact rfl | (refine ⟨Or.inl rfl, ?_⟩) | (refine ⟨Or.inr rfl, ?_⟩) | (refine ⟨Or.inr trivial, ?_⟩) | (refine ⟨rfl, ?_⟩) | (refine ⟨?_, ?_⟩)))⟩
             · rw [hu']; (repeat' (first | exact trivial | exact rfl | (refine ⟨Or.inl rfl, ?_⟩) | (refine ⟨Or.inr rfl, ?_⟩) | (refine ⟨Or.inr trivial, ?_⟩) | (refine ⟨rfl, ?_⟩) | (refine ⟨?_, ?_⟩)))
             · rw [hL', ← e1]; (repeat' (first | exact trivial | exact rfl | (refine ⟨Or.inl rfl, ?_⟩) | (refine ⟨Or.inr rfl, ?_⟩) | (refine ⟨Or.inr trivial, ?_⟩) | (refine ⟨rfl, ?_⟩) | (refine ⟨?_, ?_⟩))))
          | trace_state
      · have : k = pl.length := by omega
        subst this
        have g3 : ltb (pl.length : Nat) (pl.length : Nat) = false := by rw [ltb_f]; omega
        have w1 : (pl.zip P).take pl.length = pl.zip P := List.take_of_length_le (by rw [List.length_zip]; omega)
        have w2 : P.take pl.length = P := List.take_of_length_le (by omega)
        rw [w1, w2]
        repeat' (first | ((with_reducible refine gA ?_); (first | refine AW_seq ?_ | refine AW_region ?_ | (refine AW_condN rfl ?_ ?_; assumption) | refine AW_exit ?_)) | ((with_reducible refine gS ?_); refine Es_s (T := Try.tab) rfl rfl rfl rfl ?_) | (((with_reducible refine gS ?_); apply Es_q); rfl; rfl; (refine LStep_add rfl rfl rfl rfl ?_; (refine IntWalk.i64_in _ ?_; first | omega | (simp only [cmps] at *; omega)))) | (with_reducible refine Es_nil ?_) | (with_reducible refine then_n ?_) | (with_reducible refine then_e ?_) | (with_reducible refine block_n ?_) | ((with_reducible refine block_e ?_ ?_); rfl))
        all_goals first
          | (refine ⟨r + 1, by omega, by omega, ?_, by (repeat' (first | exact trivial | exact rfl | (refine ⟨Or.inl rfl, ?_⟩) | (refine ⟨Or.inr rfl, ?_⟩) | (refine ⟨Or.inr trivial, ?_⟩) | (refine ⟨rfl, ?_⟩) | (refine ⟨?_, ?_⟩))), ?_, by (repeat' (first | exact trivial | exact rfl | (refine ⟨Or.inl rfl, ?_⟩) | (refine ⟨Or.inr rfl, ?_⟩) | (refine ⟨Or.inr trivial, ?_⟩) | (refine ⟨rfl, ?_⟩) | (refine ⟨?_, ?_⟩)))⟩
             · rw [hfp, e2]; (repeat' (first | exact trivial | exact rfl | (refine ⟨Or.inl rfl, ?_⟩) | (refine ⟨Or.inr rfl, ?_⟩) | (refine ⟨Or.inr trivial, ?_⟩) | (refine ⟨rfl, ?_⟩) | (refine ⟨?_, ?_⟩)))
             · rw [hfo, e1]; (repeat' (first | exact trivial | exact rfl | (refine ⟨Or.inl rfl, ?_⟩) | (refine ⟨Or.inr rfl, ?_⟩) | (refine ⟨Or.inr trivial, ?_⟩) | (refine ⟨rfl, ?_⟩) | (refine ⟨?_, ?_⟩))))
          | trace_state
    · have g5 : ltb ((p : Nat) : Int) ((W.sum : Nat) : Int) = false := by rw [ltb_f]; omega
      rw [if_neg hps] at hpd
      subst hpd
      clear hW
      repeat' (first | ((with_reducible refine gA ?_); (first | refine AW_seq ?_ | refine AW_region ?_ | (refine AW_condN rfl ?_ ?_; assumption) | refine AW_block ?_ | refine AW_skip ?_ | refine AW_exit ?_)) | ((with_reducible refine gS ?_); refine Es_s (T := Try.tab) rfl rfl rfl rfl ?_) | (((with_reducible refine gS ?_); apply Es_q); rfl; rfl; refine LStep_lenM (T := Try.tab) rfl rfl rfl rfl) | (with_reducible refine Es_nil ?_) | (with_reducible refine then_n ?_) | (with_reducible refine then_e ?_) | ((with_reducible refine block_e ?_ ?_); rfl))
      refine AW_forE (S := Nat) (fun k => k ≤ pl.length) (fun k => [(79, .d (.sc (.int .i64 (k : Nat)))), (0, .d (.sc (.int .i64 ((p - (P.take k).sum : Nat) : Int))))]) (fun k => [(33, some (.arr 2 1 ((putP o ((pl.zip P).take k)).map nN)))]) (fun k => pl.length - k) 0 (by omega) (by (repeat' (first | exact trivial | exact rfl | (refine ⟨Or.inl rfl, ?_⟩) | (refine ⟨Or.inr rfl, ?_⟩) | (refine ⟨Or.inr trivial, ?_⟩) | (refine ⟨rfl, ?_⟩) | (refine ⟨?_, ?_⟩)))) (by (repeat' (first | exact trivial | exact rfl | (refine ⟨Or.inl rfl, ?_⟩) | (refine ⟨Or.inr rfl, ?_⟩) | (refine ⟨Or.inr trivial, ?_⟩) | (refine ⟨rfl, ?_⟩) | (refine ⟨?_, ?_⟩)))) ?_
      intro k hk
      by_cases hlt : k < pl.length
      · obtain ⟨j, hj, _⟩ := drop_at hlt
        obtain ⟨v, hv, _⟩ := drop_at (l := P) (k := k) (by omega)
        have hjl := hpl j (List.mem_of_getElem? hj)
        have hvP := mem_le_sum (List.mem_of_getElem? hv)
        have hz : (pl.zip P)[k]? = some (j, v) := by rw [List.getElem?_zip_eq_some]; exact ⟨hj, hv⟩
        have hst := putP_snoc o ((pl.zip P).take k) (j, v)
        rw [← take_at hz] at hst
        have hlen := putP_len ((pl.zip P).take k) o
        have hs1 := sum_take_at hv
        have hs2 := sum_take_le P (k + 1)
        have g3 : ltb (k : Nat) (pl.length : Nat) = true := by rw [ltb_t]; omega
        generalize hL' : putP o ((pl.zip P).take (k + 1)) = L' at *
        generalize putP o ((pl.zip P).take k) = L at *
        generalize hu' : (P.take (k + 1)).sum = u' at *
        generalize (P.take k).sum = u at *
        obtain ⟨z, hz0⟩ : ∃ z, L[j]? = some z := ⟨_, List.getElem?_eq_getElem (by omega)⟩
        have e1 : (L.map nN).set j (nN v) = L'.map nN := by rw [← List.map_set, ← hst]
        have hsub : AV.d (.sc (.int .i64 (wrp .i64 (((p - u : Nat) : Int) - ((v : Nat) : Int))))) = AV.d (.sc (.int .i64 ((p - u' : Nat) : Int))) := by
          rw [wrp_fit (by omega)]
          congr 3
          omega
        repeat' (first | ((with_reducible refine gA ?_); (first | refine AW_seq ?_ | refine AW_region ?_ | (refine AW_condY rfl ?_ ?_; assumption) | refine AW_block ?_ | refine AW_skip ?_)) | (((with_reducible refine gS ?_); apply Es_q); rfl; rfl; refine LStep_fitQ (T := Try.tab) rfl rfl hsub) | ((with_reducible refine gS ?_); refine Es_s (T := Try.tab) rfl rfl rfl rfl ?_) | (((with_reducible refine gS ?_); apply Es_q); rfl; rfl; (refine LStep_indexOwnM (T := Try.tab) rfl rfl rfl rfl rfl rfl rfl ?_ ?_; (rw [List.length_map]; omega); (rw [List.length_map]; omega))) | (((with_reducible refine gS ?_); apply Es_xn); rfl; rfl; (refine LStep_storeEM (T := Try.tab) rfl rfl rfl rfl rfl rfl rfl rfl ?_ hz0 rfl; (rw [List.length_map]; omega)); rfl) | (((with_reducible refine gS ?_); apply Es_q); rfl; rfl; (first | (refine LStep_add rfl rfl rfl rfl ?_; (refine IntWalk.i64_in _ ?_; first | omega | (simp only [cmps] at *; omega))) | (refine LStep_indexM (T := Try.tab) (c := ?_) rfl rfl rfl rfl rfl rfl ?_; rotate_left; assumption))) | (with_reducible refine Es_nil ?_) | (with_reducible refine then_n ?_) | (with_reducible refine block_n ?_))
        all_goals first
          | (refine ⟨k + 1, by omega, by omega, ?_, by (repeat' (first | exact trivial | exact rfl | (refine ⟨Or.inl rfl, ?_⟩) | (refine ⟨Or.inr rfl, ?_⟩) | (refine ⟨Or.inr trivial, ?_⟩) | (refine ⟨rfl, ?_⟩) | (refine ⟨?_, ?_⟩))), ?_, by (repeat' (first | exact trivial | exact rfl | (refine ⟨Or.inl rfl, ?_⟩) | (refine ⟨Or.inr rfl, ?_⟩) | (refine ⟨Or.inr trivial, ?_⟩) | (refine ⟨rfl, ?_⟩) | (refine ⟨?_, ?_⟩)))⟩
             · rw [hu']; (repeat' (first | exact trivial | exact rfl | (refine ⟨Or.inl rfl, ?_⟩) | (refine ⟨Or.inr rfl, ?_⟩) | (refine ⟨Or.inr trivial, ?_⟩) | (refine ⟨rfl, ?_⟩) | (refine ⟨?_, ?_⟩)))
             · rw [hL', ← e1]; (repeat' (first | exact trivial | exact rfl | (refine ⟨Or.inl rfl, ?_⟩) | (refine ⟨Or.inr rfl, ?_⟩) | (refine ⟨Or.inr trivial, ?_⟩) | (refine ⟨rfl, ?_⟩) | (refine ⟨?_, ?_⟩))))
          | trace_state
      · have : k = pl.length := by omega
        subst this
        have g3 : ltb (pl.length : Nat) (pl.length : Nat) = false := by rw [ltb_f]; omega
        have w1 : (pl.zip P).take pl.length = pl.zip P := List.take_of_length_le (by rw [List.length_zip]; omega)
        have w2 : P.take pl.length = P := List.take_of_length_le (by omega)
        rw [w1, w2]
        repeat' (first | ((with_reducible refine gA ?_); (first | refine AW_seq ?_ | refine AW_region ?_ | (refine AW_condN rfl ?_ ?_; assumption) | refine AW_exit ?_)) | ((with_reducible refine gS ?_); refine Es_s (T := Try.tab) rfl rfl rfl rfl ?_) | (((with_reducible refine gS ?_); apply Es_q); rfl; rfl; (refine LStep_add rfl rfl rfl rfl ?_; (refine IntWalk.i64_in _ ?_; first | omega | (simp only [cmps] at *; omega)))) | (with_reducible refine Es_nil ?_) | (with_reducible refine then_n ?_) | (with_reducible refine then_e ?_) | (with_reducible refine block_n ?_) | ((with_reducible refine block_e ?_ ?_); rfl))
        all_goals first
          | (refine ⟨r + 1, by omega, by omega, ?_, by (repeat' (first | exact trivial | exact rfl | (refine ⟨Or.inl rfl, ?_⟩) | (refine ⟨Or.inr rfl, ?_⟩) | (refine ⟨Or.inr trivial, ?_⟩) | (refine ⟨rfl, ?_⟩) | (refine ⟨?_, ?_⟩))), ?_, by (repeat' (first | exact trivial | exact rfl | (refine ⟨Or.inl rfl, ?_⟩) | (refine ⟨Or.inr rfl, ?_⟩) | (refine ⟨Or.inr trivial, ?_⟩) | (refine ⟨rfl, ?_⟩) | (refine ⟨?_, ?_⟩)))⟩
             · rw [hfp, e2]; (repeat' (first | exact trivial | exact rfl | (refine ⟨Or.inl rfl, ?_⟩) | (refine ⟨Or.inr rfl, ?_⟩) | (refine ⟨Or.inr trivial, ?_⟩) | (refine ⟨rfl, ?_⟩) | (refine ⟨?_, ?_⟩)))
             · rw [hfo, e1]; (repeat' (first | exact trivial | exact rfl | (refine ⟨Or.inl rfl, ?_⟩) | (refine ⟨Or.inr rfl, ?_⟩) | (refine ⟨Or.inr trivial, ?_⟩) | (refine ⟨rfl, ?_⟩) | (refine ⟨?_, ?_⟩))))
          | trace_state
  · have : r = 5 := by omega
    subst this
    have g2 : leb ((5 : Nat) : Int) 4 = false := by rw [leb_f]; omega
    have o1 := monN_len l t 5
    generalize (monN l t 5).1 = o at *
    generalize (monN l t 5).2 = p at *
    repeat' (first | ((with_reducible refine gRc ?_); refine AW_freeze [4] (id := 33) ⟨rfl, trivial⟩ rfl (show (o.map nN).length = l.length by rw [List.length_map]; exact o1) ?_) | ((with_reducible refine gA ?_); (first | refine AW_seq ?_ | refine AW_region ?_ | (refine AW_condN rfl ?_ ?_; assumption) | refine AW_ret ?_ | refine AW_exit ?_)) | ((with_reducible refine gS ?_); refine Es_s (T := Try.tab) rfl rfl rfl rfl ?_) | (with_reducible refine Es_nil ?_) | (with_reducible refine then_n ?_) | (with_reducible refine then_e ?_) | ((with_reducible refine block_e ?_ ?_); rfl))
    all_goals first
      | rfl
      | trace_state
end Go.Proofs.Ytldfncafkdmoiaa
