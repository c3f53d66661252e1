import Derived.Test.YtofdnkgieigncaaGreatWB
namespace Go.Proofs.YtofdnkgieigncaaGreat
open Go.SL
/-! ### Rings: the walk -/
section
variable {P : Program} {T : Tab P} {O : Org} {env : Env} {h : Hp} {o : Oper}
theorem LStep_tailM {t e sz : Nat} {x : Operand} {α : Type} {enc : α → List D} {y : α} {ys : List α} (ho : o.op = .slice t x (some (.const (.int .i64 1))) none none) (hT : T.desc t = some (.slice e)) (hS : T.size e = some sz)
    (hx : evalA env x = .d (.sl sz ((y :: ys).map enc))) (hd : dstOk o.dst O.nt = true) : LStep P O o env h [] [] (.d (.sl sz (ys.map enc))) [] := by
  have := LStep_partM (O := O) (o := o) (h := h) (T := T) (es := y :: ys) (l := 1) (q := (((y :: ys).map enc).length : Nat)) ho hT hS hx rfl rfl hd (by omega) (by simp only [List.length_map, List.length_cons]; omega) (by rw [List.length_map]; omega)
  rw [Int.toNat_natCast, List.length_map, List.take_length] at this
  exact this
end
def ringsV (l : List Db) : AV := .tup [.d (.sl 4 ((ringsN l).map dbE)), .d (.sc (.int .i64 (goneN l))), .d (.sc (.int .i64 0))]
set_option maxRecDepth 10000 in
set_option maxHeartbeats 32000000 in
theorem ringsOk_ac (l : List Db) (hl : l.length ≤ 4096) (h : l.all mayD = true) (hb : ¬ badN l) (h8 : (parN l).length ≤ 8) : AC Tryz.prog 16 [.d (.sl 4 (l.map dbE))] [] [] (fun r _ => r = ringsV l) := by
  have c := pairsOk_ac l hl h hb
  have c2 := parties_ac l hl
  have hO := okD h hb
  obtain ⟨e1, e2, e3⟩ := curP_eq hO
  have hR : ringsV l = .tup [.d (.sl 4 (((curP l).flatMap (rcC l)).map dbE)), .d (.sc (.int .i64 (sumG (curP l) fun c => (rgN l c).2))), .d (.sc (.int .i64 0))] := by unfold ringsV; rw [e2, e3]
  rw [hR]
  rw [e1] at c
  have hcl := curP_len l
  have hcin := fun c (h : c ∈ curP l) => (curP_in h).1
  have hix := fun p => indexS_ac (parN l) p (by omega)
  have g : ltb 8 ((parN l).length : Nat) = false := by rw [ltb_f]; omega
  refine AC_enter Tryz.func16 rfl Tryz.ntmps16 (rv := [.tmp 2, .tmp 3, .tmp 4]) rfl rfl (by simp) (fun w X G => ?_)
  repeat' (first | ((with_reducible refine gA ?_); (first | refine AW_seq ?_ | refine AW_region ?_ | (refine AW_condN rfl ?_ ?_; assumption) | (refine AW_cond rfl (fun hc => ?_) (fun hc => ?_) <;> try (exfalso; simp only [cmpL] at hc; omega)) | refine AW_block ?_ | refine AW_skip ?_)) | ((with_reducible refine gS ?_); refine Es_s (T := Tryz.tab) rfl rfl rfl rfl ?_) | (((with_reducible refine gS ?_); apply Es_q); rfl; rfl; (first | refine LStep_call (c) rfl rfl rfl rfl | refine LStep_call (c2) rfl rfl rfl rfl)) | (((with_reducible refine gS ?_); apply Es_q); rfl; rfl; refine LStep_lenM (T := Tryz.tab) rfl rfl rfl rfl) | (with_reducible refine Es_nil ?_) | (with_reducible refine then_n ?_))
  refine AW_openNil (t := 8) (id := 2000) (e := 55) (sz := 4) rfl rfl rfl rfl ?_
  refine AW_weaken (E := [(5, .d (.sl 4 (((curP l).flatMap (pcC l)).map dbE))), (7, .d (.sl 1 ((parN l).map sN))), (8, .own 2000 0), (9, .d (.sc (.int .i64 0)))]) (H := [(2000, some (.arr 55 4 []))]) ?_ (by (repeat' (first | exact trivial | exact rfl | (refine ⟨Or.inl rfl, ?_⟩) | (refine ⟨Or.inr rfl, ?_⟩) | (refine ⟨Or.inr trivial, ?_⟩) | (refine ⟨rfl, ?_⟩) | (refine ⟨?_, ?_⟩)))) (by (repeat' (first | exact trivial | exact rfl | (refine ⟨Or.inl rfl, ?_⟩) | (refine ⟨Or.inr rfl, ?_⟩) | (refine ⟨Or.inr trivial, ?_⟩) | (refine ⟨rfl, ?_⟩) | (refine ⟨?_, ?_⟩))))
  refine AW_forE (S := Nat) (fun k => k ≤ (curP l).length) (fun k => [(5, .d (.sl 4 ((((curP l).drop k).flatMap (pcC l)).map dbE))), (8, .own 2000 ((((curP l).take k).flatMap (rcC l)).map dbE).length), (9, .d (.sc (.int .i64 (sumG ((curP l).take k) fun c => (rgN l c).2))))]) (fun k => [(2000, some (.arr 55 4 ((((curP l).take k).flatMap (rcC l)).map dbE)))]) (fun k => (curP l).length - k) 0 (by omega) (by (repeat' (first | exact trivial | exact rfl | (refine ⟨Or.inl rfl, ?_⟩) | (refine ⟨Or.inr rfl, ?_⟩) | (refine ⟨Or.inr trivial, ?_⟩) | (refine ⟨rfl, ?_⟩) | (refine ⟨?_, ?_⟩)))) (by (repeat' (first | exact trivial | exact rfl | (refine ⟨Or.inl rfl, ?_⟩) | (refine ⟨Or.inr rfl, ?_⟩) | (refine ⟨Or.inr trivial, ?_⟩) | (refine ⟨rfl, ?_⟩) | (refine ⟨?_, ?_⟩)))) ?_
  intro k hk
  by_cases hlt : k < (curP l).length
  · obtain ⟨c, hc, hd⟩ := drop_at hlt
    have hcm := hcin c (List.mem_of_getElem? hc)
    have hne := (curP_in (List.mem_of_getElem? hc)).2
    have hnx := cur_next hc
    have hstep := fun j x (hx : (pcC l c)[j]? = some x) => tab_step h8 hcm hx
    obtain ⟨t1, t2, t3⟩ := cur_tab hO h8 hcm
    have hE : ((curP l).take (k + 1)).flatMap (rcC l) = ((curP l).take k).flatMap (rcC l) ++ rcC l c := by rw [take_at hc, List.flatMap_append, List.flatMap_cons, List.flatMap_nil, List.append_nil]
    have hL : (sumG ((curP l).take (k + 1)) fun c => (rgN l c).2) = (sumG ((curP l).take k) fun c => (rgN l c).2) + (rgN l c).2 := by rw [take_at hc, sumG_snoc]
    have hEl : (((curP l).take k).flatMap (rcC l)).length ≤ 4096 * 64 := by
      have := flat_le (rcC l) 64 (rc_len h8) ((curP l).take k)
      have h2 : ((curP l).take k).length ≤ 4096 := by rw [List.length_take]; omega
      have := Nat.mul_le_mul_right 64 h2
      omega
    have hLb := gone_bd hO h8 ((curP l).take k) (fun x hx => hcin x (List.mem_of_mem_take hx))
    have hLt : ((curP l).take k).length ≤ 4096 := by rw [List.length_take]; omega
    have hgb := rg_bd hO h8 hcm
    have hQ : ((curP l).drop k).flatMap (pcC l) = (pcC l c).drop 0 ++ ((curP l).drop (k + 1)).flatMap (pcC l) := by rw [hd, List.flatMap_cons]; rfl
    rw [hQ]
    have hrcl := fun X hX => rcX_len h8 c X hX
    have hrpl := fun p Y hY => rcP_len h8 c p Y hY
    have hrc : rcC l c = (parN l).flatMap fun p => (parN l).flatMap fun q => rgF l c p q := rfl
    have hL1 : (sumG ((curP l).take k) fun c => (rgN l c).2) ≤ 2305843009213693952 := by
      have : (562949953421312 : Int) * (((curP l).take k).length : Int) ≤ 562949953421312 * 4096 := Int.mul_le_mul_of_nonneg_left (by omega) (by omega)
      omega
    have hL0 := hLb.1
    rw [hrc] at hE
    generalize (sumG ((curP l).take k) fun c => (rgN l c).2) = L0 at *
    generalize ((curP l).take k).flatMap (rcC l) = E0 at *
    generalize hQe : ((curP l).drop (k + 1)).flatMap (pcC l) = Q at *
    generalize (rgN l c).2 = gl at *
    have hfun : ∀ p q, rgF l c p q = if 0 < (rgN l c).1 p q then [((c, p, q), (rgN l c).1 p q)] else [] := fun p q => rfl
    generalize hP : pcC l c = P at *
    cases hP0 : P with
    | nil => exact absurd hP0 hne
    | cons x0 P' =>
    have hx00 := (hstep 0 x0 (by rw [hP0]; rfl)).1
    obtain ⟨⟨c0, p0, q0⟩, m0⟩ := x0
    dsimp only at hx00
    subst hx00
    have hl0 : ltb 0 (((P.drop 0 ++ Q).length : Nat) : Int) = true := by rw [ltb_t, List.length_append, hP0]; simp only [List.drop_zero, List.length_cons]; omega
    have hg0 : ((P.drop 0 ++ Q).map dbE)[(0 : Int).toNat]? = some [.sc (.string p0), .sc (.string q0), .sc (.string c0), .sc (.int .i64 m0)] := by rw [hP0]; rfl
    rw [← hP0]
    repeat' (first | ((with_reducible refine gA ?_); (first | refine AW_seq ?_ | refine AW_region ?_ | (refine AW_condY rfl ?_ ?_; assumption) | refine AW_block ?_ | refine AW_skip ?_)) | ((with_reducible refine gS ?_); refine Es_s (T := Tryz.tab) rfl rfl rfl rfl ?_) | (((with_reducible refine gS ?_); apply Es_q); rfl; rfl; (refine LStep_index (T := Tryz.tab) (c := ?_) rfl rfl rfl rfl rfl rfl ?_ ?_; rotate_left; omega; exact hg0)) | (((with_reducible refine gS ?_); apply Es_xs); rfl; rfl; refine LStep_alloc (T := Tryz.tab) (cs := tbl (fun _ _ => 0)) rfl rfl rfl rfl rfl; rfl) | (((with_reducible refine gS ?_); apply Es_q); rfl; rfl; refine LStep_lenM (T := Tryz.tab) rfl rfl rfl rfl) | (with_reducible refine Es_nil ?_) | (with_reducible refine then_n ?_))
    refine AW_forE (S := Nat) (fun j => j ≤ P.length) (fun j => [(5, .d (.sl 4 ((P.drop j ++ Q).map dbE)))]) (fun j => [(11, some (.cells (tbl (tabG (parN l) c0 (P.take j)))))]) (fun j => P.length - j) 0 (by omega) (by (repeat' (first | exact trivial | exact rfl | (refine ⟨Or.inl rfl, ?_⟩) | (refine ⟨Or.inr rfl, ?_⟩) | (refine ⟨Or.inr trivial, ?_⟩) | (refine ⟨rfl, ?_⟩) | (refine ⟨?_, ?_⟩)))) (by rw [List.take_zero, tabG_nil]; (repeat' (first | exact trivial | exact rfl | (refine ⟨Or.inl rfl, ?_⟩) | (refine ⟨Or.inr rfl, ?_⟩) | (refine ⟨Or.inr trivial, ?_⟩) | (refine ⟨rfl, ?_⟩) | (refine ⟨?_, ?_⟩)))) ?_
    intro j hj
    by_cases hltj : j < P.length
    · obtain ⟨x, hx, hdx⟩ := drop_at hltj
      obtain ⟨ex, a, b, ha, hb8, ia, ib, hup⟩ := hstep j x hx
      obtain ⟨⟨c1, p, q⟩, m⟩ := x
      dsimp only at ex ia ib hup
      have ex := ex.symm
      subst ex
      rw [hdx, List.cons_append]
      have hl1 : ltb 0 (((((c0, p, q), m) :: (P.drop (j + 1) ++ Q)).length : Nat) : Int) = true := by rw [ltb_t]; simp only [List.length_cons]; omega
      have hg1 : ((((c0, p, q), m) :: (P.drop (j + 1) ++ Q)).map dbE)[(0 : Int).toNat]? = some [.sc (.string p), .sc (.string q), .sc (.string c0), .sc (.int .i64 m)] := rfl
      have he1 : eqs c0 c0 = true := (eqs_t).2 rfl
      have ci := hix p
      have cj := hix q
      rw [ia] at ci
      rw [ib] at cj
      have b1 : Nat.blt a 8 = true := by rw [Nat.blt_eq]; exact ha
      have b2 : Nat.blt b 8 = true := by rw [Nat.blt_eq]; exact hb8
      have hset := tbl_set (tabG (parN l) c0 (P.take j)) ha hb8 m
      rw [hup] at hset
      have hfit : 0 + a * 8 + b * 1 + 1 ≤ (tbl (tabG (parN l) c0 (P.take j))).length := by rw [tbl_len]; omega
      repeat' (first | ((with_reducible refine gA ?_); (first | refine AW_seq ?_ | refine AW_region ?_ | refine AW_regionD Tryz.mixed ?_ | (refine AW_condY rfl ?_ ?_; assumption) | refine AW_block ?_ | refine AW_skip ?_)) | (first | ((with_reducible refine gS ?_); refine Es_s (T := Tryz.tab) rfl rfl rfl rfl ?_) | ((with_reducible refine gD ?_); refine Ed_s (T := Tryz.tab) rfl rfl rfl rfl ?_)) | ((first | ((with_reducible refine gS ?_); apply Es_q) | ((with_reducible refine gD ?_); apply Ed_q)); rfl; (first | rfl | (refine w_tt ?_; assumption)); (first | refine LStep_call (ci) rfl rfl rfl rfl | refine LStep_call (cj) rfl rfl rfl rfl | (refine LStep_index (T := Tryz.tab) (c := ?_) rfl rfl rfl rfl rfl rfl ?_ ?_; rotate_left; omega; exact hg1) | refine LStep_indexPtr (T := Tryz.tab) rfl rfl rfl rfl rfl rfl b1 | refine LStep_indexPtr (T := Tryz.tab) rfl rfl rfl rfl rfl rfl b2 | refine LStep_tailM (T := Tryz.tab) rfl rfl rfl rfl rfl)) | ((first | ((with_reducible refine gS ?_); apply Es_xn) | ((with_reducible refine gD ?_); apply Ed_xn)); rfl; rfl; refine LStep_store (T := Tryz.tab) rfl rfl rfl rfl rfl rfl rfl hfit; rfl) | (((with_reducible refine gS ?_); apply Es_q); rfl; (first | rfl | (refine w_tt ?_; assumption)); (first | refine LStep_simp (T := Tryz.tab) rfl rfl | refine LStep_lenM (T := Tryz.tab) rfl rfl rfl rfl | (refine LStep_pickT rfl rfl ?_ rfl rfl; assumption))) | (with_reducible refine Es_nil ?_) | ((with_reducible refine Ed_nil ?_ ?_); kernel_rfl) | (with_reducible refine then_n ?_) | (with_reducible refine block_n ?_))
      all_goals first
        | (refine ⟨j + 1, by omega, by omega, by (repeat' (first | exact trivial | exact rfl | (refine ⟨Or.inl rfl, ?_⟩) | (refine ⟨Or.inr rfl, ?_⟩) | (refine ⟨Or.inr trivial, ?_⟩) | (refine ⟨rfl, ?_⟩) | (refine ⟨?_, ?_⟩))), by (repeat' (first | exact trivial | exact rfl | (refine ⟨Or.inl rfl, ?_⟩) | (refine ⟨Or.inr rfl, ?_⟩) | (refine ⟨Or.inr trivial, ?_⟩) | (refine ⟨rfl, ?_⟩) | (refine ⟨?_, ?_⟩))), ?_, by (repeat' (first | exact trivial | exact rfl | (refine ⟨Or.inl rfl, ?_⟩) | (refine ⟨Or.inr rfl, ?_⟩) | (refine ⟨Or.inr trivial, ?_⟩) | (refine ⟨rfl, ?_⟩) | (refine ⟨?_, ?_⟩)))⟩
           rw [← hset]; (repeat' (first | exact trivial | exact rfl | (refine ⟨Or.inl rfl, ?_⟩) | (refine ⟨Or.inr rfl, ?_⟩) | (refine ⟨Or.inr trivial, ?_⟩) | (refine ⟨rfl, ?_⟩) | (refine ⟨?_, ?_⟩))))
        | trace_state
    · have hjl : j = P.length := by omega
      subst hjl
      rw [List.drop_length, List.take_length, List.nil_append]
      have clo := loosen_ac (tabG (parN l) c0 P) t1
      rw [t2] at clo
      unfold hT at clo
      have h8u : ∀ i p, (parN l)[i]? = some p → i < 8 := fun i p hp => by have := (List.getElem?_eq_some_iff.1 hp).1; omega
      have hat := fun i j (hi : i < 8) (hj : j < 8) => tbl_at (los8 (tabG (parN l) c0 P)).1 hi hj
      generalize (los8 (tabG (parN l) c0 P)).1 = U at *
      have hQ0 : (ltb 0 ((Q.length : Nat) : Int) = false) ∨ ∃ y : Db, ltb 0 ((Q.length : Nat) : Int) = true ∧ (Q.map dbE)[(0 : Int).toNat]? = some [.sc (.string y.1.2.1), .sc (.string y.1.2.2), .sc (.string y.1.1), .sc (.int .i64 y.2)] ∧ eqs y.1.1 c0 = false := by
        rcases hnx with e | ⟨y, ys, e, hy⟩
        · exact .inl (by rw [e, ltb_f, List.length_nil]; omega)
        · refine .inr ⟨y, by rw [e, ltb_t, List.length_cons]; omega, by rw [e]; rfl, ?_⟩
          rw [Bool.eq_false_iff]
          exact fun h => hy ((eqs_t).1 h)
      have hinit : E0 = E0 ++ ((parN l).take 0).flatMap fun p => (parN l).flatMap fun q => rgF l c0 p q := by rw [List.take_zero]; exact (List.append_nil _).symm
      have hR : ∀ i p, (parN l)[i]? = some p → (((parN l).take (i + 1)).flatMap fun p => (parN l).flatMap fun q => rgF l c0 p q) = (((parN l).take i).flatMap fun p => (parN l).flatMap fun q => rgF l c0 p q) ++ ((parN l).flatMap fun q => rgF l c0 p q) := fun i p hp => by rw [take_at hp, List.flatMap_append, List.flatMap_cons, List.flatMap_nil, List.append_nil]
      have hF : ∀ p j q, (parN l)[j]? = some q → (((parN l).take (j + 1)).flatMap fun q => rgF l c0 p q) = (((parN l).take j).flatMap fun q => rgF l c0 p q) ++ rgF l c0 p q := fun p j q hq => by rw [take_at hq, List.flatMap_append, List.flatMap_cons, List.flatMap_nil, List.append_nil]
      have htl : ∀ i, ((parN l).take i).length ≤ 8 := fun i => by rw [List.length_take]; omega
      clear hd hc hnx hstep hix
      rcases hQ0 with hq0 | ⟨⟨⟨cy, py, qy⟩, my⟩, hq0, hq1, hq2⟩
      all_goals try dsimp only at hq1 hq2
      all_goals
        repeat' (first | ((with_reducible refine gA ?_); (first | refine AW_seq ?_ | refine AW_region ?_ | refine AW_condF rfl ?_ | (refine AW_condN rfl ?_ ?_; assumption) | refine AW_block ?_ | refine AW_exit ?_)) | ((with_reducible refine gS ?_); refine Es_s (T := Tryz.tab) rfl rfl rfl rfl ?_) | (((with_reducible refine gS ?_); apply Es_q); rfl; (first | rfl | (refine w_tt ?_; assumption)); (refine LStep_index (T := Tryz.tab) (c := ?_) rfl rfl rfl rfl rfl rfl ?_ ?_; rotate_left; omega; exact hq1)) | (((with_reducible refine gS ?_); apply Es_xg); rfl; (first | rfl | (refine w_tt ?_; assumption)); refine LStep_callH [(1000, 11)] [] clo rfl rfl ⟨rfl, trivial⟩ rfl ⟨trivial, trivial⟩; rfl) | (((with_reducible refine gS ?_); apply Es_q); rfl; (first | rfl | (refine w_tt ?_; assumption)); (first | refine LStep_simp (T := Tryz.tab) rfl rfl | refine LStep_lenM (T := Tryz.tab) rfl rfl rfl rfl | (refine LStep_add rfl rfl rfl rfl ?_; (refine IntWalk.i64_in _ ?_; first | omega | (simp only [cmps] at *; omega))) | (refine LStep_pickT rfl rfl ?_ rfl rfl; assumption) | (refine LStep_pickF rfl rfl ?_ rfl rfl; assumption))) | (refine Es_skip rfl ?_ rfl ?_; (first | rfl | (refine w_tf ?_; assumption) | (refine w_ft ?_; assumption))) | (with_reducible refine Es_nil ?_) | (with_reducible refine then_n ?_) | (with_reducible refine then_e ?_) | ((with_reducible refine block_e ?_ ?_); rfl))
        refine AW_weaken (E := [(5, .d (.sl 4 (Q.map dbE))), (7, .d (.sl 1 ((parN l).map sN))), (8, .own 2000 (E0.map dbE).length), (9, .d (.sc (.int .i64 (L0 + gl)))), (10, .d (.sc (.string c0))), (11, .ptr 11 0), (70, .d (.sl 1 ((parN l).map sN))), (71, .d (.sc (.int .i64 ((parN l).length : Nat)))), (72, .d (.sc (.int .i64 0)))]) (H := [(2000, some (.arr 55 4 (E0.map dbE))), (11, some (.cells (tbl U)))]) ?_ (by (repeat' (first | exact trivial | exact rfl | (refine ⟨Or.inl rfl, ?_⟩) | (refine ⟨Or.inr rfl, ?_⟩) | (refine ⟨Or.inr trivial, ?_⟩) | (refine ⟨rfl, ?_⟩) | (refine ⟨?_, ?_⟩)))) (by (repeat' (first | exact trivial | exact rfl | (refine ⟨Or.inl rfl, ?_⟩) | (refine ⟨Or.inr rfl, ?_⟩) | (refine ⟨Or.inr trivial, ?_⟩) | (refine ⟨rfl, ?_⟩) | (refine ⟨?_, ?_⟩))))
        refine AW_forE (S := Nat) (fun i => i ≤ (parN l).length) (fun i => [(72, .d (.sc (.int .i64 (i : Nat)))), (8, .own 2000 ((E0 ++ ((parN l).take i).flatMap fun p => (parN l).flatMap fun q => rgF l c0 p q).map dbE).length)]) (fun i => [(2000, some (.arr 55 4 ((E0 ++ ((parN l).take i).flatMap fun p => (parN l).flatMap fun q => rgF l c0 p q).map dbE)))]) (fun i => (parN l).length - i) 0 (by omega) (by rw [← hinit]; (repeat' (first | exact trivial | exact rfl | (refine ⟨Or.inl rfl, ?_⟩) | (refine ⟨Or.inr rfl, ?_⟩) | (refine ⟨Or.inr trivial, ?_⟩) | (refine ⟨rfl, ?_⟩) | (refine ⟨?_, ?_⟩)))) (by rw [← hinit]; (repeat' (first | exact trivial | exact rfl | (refine ⟨Or.inl rfl, ?_⟩) | (refine ⟨Or.inr rfl, ?_⟩) | (refine ⟨Or.inr trivial, ?_⟩) | (refine ⟨rfl, ?_⟩) | (refine ⟨?_, ?_⟩)))) ?_
        intro i hi
        by_cases hlti : i < (parN l).length
        · obtain ⟨p, hp, _⟩ := drop_at hlti
          have g3 : ltb ((i : Nat) : Int) (((parN l).length : Nat) : Int) = true := by rw [ltb_t]; omega
          have hE1l : (E0 ++ ((parN l).take i).flatMap fun p => (parN l).flatMap fun q => rgF l c0 p q).length ≤ 262208 := by
            have := hrcl ((parN l).take i) (htl i)
            rw [List.length_append]; omega
          have hi8 := h8u i p hp
          have b3 : Nat.blt i 8 = true := by rw [Nat.blt_eq]; exact hi8
          have hRi := hR i p hp
          generalize hE1 : (E0 ++ ((parN l).take i).flatMap fun p => (parN l).flatMap fun q => rgF l c0 p q) = E1 at *
          repeat' (first | ((with_reducible refine gA ?_); (first | refine AW_seq ?_ | refine AW_region ?_ | (refine AW_condY rfl ?_ ?_; assumption) | refine AW_block ?_ | refine AW_skip ?_)) | ((with_reducible refine gS ?_); refine Es_s (T := Tryz.tab) rfl rfl rfl rfl ?_) | (((with_reducible refine gS ?_); apply Es_q); rfl; rfl; (first | refine LStep_lenM (T := Tryz.tab) rfl rfl rfl rfl | (refine LStep_indexM (T := Tryz.tab) (c := ?_) rfl rfl rfl rfl rfl rfl ?_; rotate_left; assumption))) | (with_reducible refine Es_nil ?_) | (with_reducible refine then_n ?_))
          refine AW_forE (S := Nat) (fun j => j ≤ (parN l).length) (fun j => [(79, .d (.sc (.int .i64 (j : Nat)))), (8, .own 2000 ((E1 ++ ((parN l).take j).flatMap fun q => rgF l c0 p q).map dbE).length)]) (fun j => [(2000, some (.arr 55 4 ((E1 ++ ((parN l).take j).flatMap fun q => rgF l c0 p q).map dbE)))]) (fun j => (parN l).length - j) 0 (by omega) (by rw [List.take_zero, List.flatMap_nil, List.append_nil]; (repeat' (first | exact trivial | exact rfl | (refine ⟨Or.inl rfl, ?_⟩) | (refine ⟨Or.inr rfl, ?_⟩) | (refine ⟨Or.inr trivial, ?_⟩) | (refine ⟨rfl, ?_⟩) | (refine ⟨?_, ?_⟩)))) (by rw [List.take_zero, List.flatMap_nil, List.append_nil]; (repeat' (first | exact trivial | exact rfl | (refine ⟨Or.inl rfl, ?_⟩) | (refine ⟨Or.inr rfl, ?_⟩) | (refine ⟨Or.inr trivial, ?_⟩) | (refine ⟨rfl, ?_⟩) | (refine ⟨?_, ?_⟩)))) ?_
          intro j hj
          by_cases hltj : j < (parN l).length
          · obtain ⟨q, hq, _⟩ := drop_at hltj
            have g4 : ltb ((j : Nat) : Int) (((parN l).length : Nat) : Int) = true := by rw [ltb_t]; omega
            have hj8 := h8u j q hq
            have b4 : Nat.blt j 8 = true := by rw [Nat.blt_eq]; exact hj8
            have ha := hat i j hi8 hj8
            have hval := t3 i j p q hp hq
            have hFj := hF p j q hq
            rw [hfun p q, ← hval] at hFj
            have hE2l : (E1 ++ ((parN l).take j).flatMap fun q => rgF l c0 p q).length ≤ 262216 := by
              have := hrpl p ((parN l).take j) (htl j)
              rw [List.length_append]; omega
            have hN1 : ltb 0 (U i j) = true → (E1 ++ ((parN l).take (j + 1)).flatMap fun q => rgF l c0 p q).map dbE = (E1 ++ ((parN l).take j).flatMap fun q => rgF l c0 p q).map dbE ++ [[.sc (.string p), .sc (.string q), .sc (.string c0), .sc (.int .i64 (U i j))]] := fun h => by
              rw [hFj, if_pos ((ltb_t).1 h), ← List.append_assoc, List.map_append]; rfl
            have hN0 : ltb 0 (U i j) = false → (E1 ++ ((parN l).take (j + 1)).flatMap fun q => rgF l c0 p q) = E1 ++ ((parN l).take j).flatMap fun q => rgF l c0 p q := fun h => by
              have := (ltb_f).1 h
              rw [hFj, if_neg (by omega), List.append_nil]
            generalize (E1 ++ ((parN l).take j).flatMap fun q => rgF l c0 p q) = E2 at *
            repeat' (first | ((with_reducible refine gA ?_); (first | refine AW_seq ?_ | refine AW_region ?_ | (refine AW_condY rfl ?_ ?_; assumption) | (refine AW_cond rfl (fun hc => ?_) (fun hc => ?_) <;> try (exfalso; simp only [cmpL] at hc; omega)) | refine AW_block ?_ | refine AW_skip ?_)) | ((with_reducible refine gS ?_); refine Es_s (T := Tryz.tab) rfl rfl rfl rfl ?_) | (((with_reducible refine gS ?_); apply Es_q); rfl; rfl; (first | refine LStep_indexPtr (T := Tryz.tab) rfl rfl rfl rfl rfl rfl b3 | refine LStep_indexPtr (T := Tryz.tab) rfl rfl rfl rfl rfl rfl b4 | refine LStep_loadCell (T := Tryz.tab) rfl rfl rfl rfl rfl ha)) | (((with_reducible refine gS ?_); apply Es_xs); rfl; rfl; (refine LStep_append (T := Tryz.tab) rfl rfl rfl rfl rfl rfl rfl rfl rfl rfl ?_ ?_ ?_; rfl; (simp only [List.length_map, List.length_cons, List.length_nil]; omega); (unfold maxLen; simp only [List.length_map, List.length_cons, List.length_nil]; omega)); rfl) | (((with_reducible refine gS ?_); apply Es_q); rfl; rfl; (first | (refine LStep_add rfl rfl rfl rfl ?_; (refine IntWalk.i64_in _ ?_; first | omega | (simp only [cmps] at *; omega))) | (refine LStep_indexM (T := Tryz.tab) (c := ?_) rfl rfl rfl rfl rfl rfl ?_; rotate_left; assumption) | (refine LStep_lit (T := Tryz.tab) rfl rfl rfl rfl rfl rfl rfl rfl ?_; (refine Nat.le_of_ble_eq_true ?_; rfl)) | refine LStep_buildN (T := Tryz.tab) rfl rfl rfl rfl rfl rfl rfl)) | (with_reducible refine Es_nil ?_) | (with_reducible refine then_n ?_) | (with_reducible refine block_n ?_))
            all_goals first
              | (refine ⟨j + 1, by omega, by omega, ?_, by (repeat' (first | exact trivial | exact rfl | (refine ⟨Or.inl rfl, ?_⟩) | (refine ⟨Or.inr rfl, ?_⟩) | (refine ⟨Or.inr trivial, ?_⟩) | (refine ⟨rfl, ?_⟩) | (refine ⟨?_, ?_⟩))), ?_, by (repeat' (first | exact trivial | exact rfl | (refine ⟨Or.inl rfl, ?_⟩) | (refine ⟨Or.inr rfl, ?_⟩) | (refine ⟨Or.inr trivial, ?_⟩) | (refine ⟨rfl, ?_⟩) | (refine ⟨?_, ?_⟩)))⟩
                 · rw [hN1 (by assumption)]; (repeat' (first | exact trivial | exact rfl | (refine ⟨Or.inl rfl, ?_⟩) | (refine ⟨Or.inr rfl, ?_⟩) | (refine ⟨Or.inr trivial, ?_⟩) | (refine ⟨rfl, ?_⟩) | (refine ⟨?_, ?_⟩)))
                 · rw [hN1 (by assumption)]; (repeat' (first | exact trivial | exact rfl | (refine ⟨Or.inl rfl, ?_⟩) | (refine ⟨Or.inr rfl, ?_⟩) | (refine ⟨Or.inr trivial, ?_⟩) | (refine ⟨rfl, ?_⟩) | (refine ⟨?_, ?_⟩))))
              | (refine ⟨j + 1, by omega, by omega, ?_, by (repeat' (first | exact trivial | exact rfl | (refine ⟨Or.inl rfl, ?_⟩) | (refine ⟨Or.inr rfl, ?_⟩) | (refine ⟨Or.inr trivial, ?_⟩) | (refine ⟨rfl, ?_⟩) | (refine ⟨?_, ?_⟩))), ?_, by (repeat' (first | exact trivial | exact rfl | (refine ⟨Or.inl rfl, ?_⟩) | (refine ⟨Or.inr rfl, ?_⟩) | (refine ⟨Or.inr trivial, ?_⟩) | (refine ⟨rfl, ?_⟩) | (refine ⟨?_, ?_⟩)))⟩
                 · rw [hN0 (by assumption)]; (repeat' (first | exact trivial | exact rfl | (refine ⟨Or.inl rfl, ?_⟩) | (refine ⟨Or.inr rfl, ?_⟩) | (refine ⟨Or.inr trivial, ?_⟩) | (refine ⟨rfl, ?_⟩) | (refine ⟨?_, ?_⟩)))
                 · rw [hN0 (by assumption)]; (repeat' (first | exact trivial | exact rfl | (refine ⟨Or.inl rfl, ?_⟩) | (refine ⟨Or.inr rfl, ?_⟩) | (refine ⟨Or.inr trivial, ?_⟩) | (refine ⟨rfl, ?_⟩) | (refine ⟨?_, ?_⟩))))
              | trace_state
          · have hjl : j = (parN l).length := by omega
            subst hjl
            have g4 : ltb (((parN l).length : Nat) : Int) (((parN l).length : Nat) : Int) = false := by rw [ltb_f]; omega
            rw [List.take_length]
            repeat' (first | ((with_reducible refine gA ?_); (first | refine AW_seq ?_ | refine AW_region ?_ | (refine AW_condN rfl ?_ ?_; assumption) | refine AW_exit ?_)) | ((with_reducible refine gS ?_); refine Es_s (T := Tryz.tab) rfl rfl rfl rfl ?_) | (((with_reducible refine gS ?_); apply Es_q); rfl; rfl; (refine LStep_add rfl rfl rfl rfl ?_; (refine IntWalk.i64_in _ ?_; first | omega | (simp only [cmps] at *; omega)))) | (with_reducible refine Es_nil ?_) | (with_reducible refine then_n ?_) | (with_reducible refine then_e ?_) | (with_reducible refine block_n ?_) | ((with_reducible refine block_e ?_ ?_); rfl))
            all_goals first
              | (refine ⟨i + 1, by omega, by omega, ?_, by (repeat' (first | exact trivial | exact rfl | (refine ⟨Or.inl rfl, ?_⟩) | (refine ⟨Or.inr rfl, ?_⟩) | (refine ⟨Or.inr trivial, ?_⟩) | (refine ⟨rfl, ?_⟩) | (refine ⟨?_, ?_⟩))), ?_, by (repeat' (first | exact trivial | exact rfl | (refine ⟨Or.inl rfl, ?_⟩) | (refine ⟨Or.inr rfl, ?_⟩) | (refine ⟨Or.inr trivial, ?_⟩) | (refine ⟨rfl, ?_⟩) | (refine ⟨?_, ?_⟩)))⟩
                 · rw [hRi, ← List.append_assoc, hE1]; (repeat' (first | exact trivial | exact rfl | (refine ⟨Or.inl rfl, ?_⟩) | (refine ⟨Or.inr rfl, ?_⟩) | (refine ⟨Or.inr trivial, ?_⟩) | (refine ⟨rfl, ?_⟩) | (refine ⟨?_, ?_⟩)))
                 · rw [hRi, ← List.append_assoc, hE1]; (repeat' (first | exact trivial | exact rfl | (refine ⟨Or.inl rfl, ?_⟩) | (refine ⟨Or.inr rfl, ?_⟩) | (refine ⟨Or.inr trivial, ?_⟩) | (refine ⟨rfl, ?_⟩) | (refine ⟨?_, ?_⟩))))
              | trace_state
        · have hil : i = (parN l).length := by omega
          subst hil
          have g3 : ltb (((parN l).length : Nat) : Int) (((parN l).length : Nat) : Int) = false := by rw [ltb_f]; omega
          rw [List.take_length]
          repeat' (first | ((with_reducible refine gA ?_); (first | refine AW_seq ?_ | refine AW_region ?_ | (refine AW_condN rfl ?_ ?_; assumption) | refine AW_exit ?_)) | ((with_reducible refine gS ?_); refine Es_s (T := Tryz.tab) rfl rfl rfl rfl ?_) | (with_reducible refine Es_nil ?_) | (with_reducible refine then_n ?_) | (with_reducible refine then_e ?_) | (with_reducible refine block_n ?_) | ((with_reducible refine block_e ?_ ?_); rfl))
          all_goals first
            | (refine ⟨k + 1, by omega, by omega, ?_, by (repeat' (first | exact trivial | exact rfl | (refine ⟨Or.inl rfl, ?_⟩) | (refine ⟨Or.inr rfl, ?_⟩) | (refine ⟨Or.inr trivial, ?_⟩) | (refine ⟨rfl, ?_⟩) | (refine ⟨?_, ?_⟩))), ?_, by (repeat' (first | exact trivial | exact rfl | (refine ⟨Or.inl rfl, ?_⟩) | (refine ⟨Or.inr rfl, ?_⟩) | (refine ⟨Or.inr trivial, ?_⟩) | (refine ⟨rfl, ?_⟩) | (refine ⟨?_, ?_⟩)))⟩
               · rw [hE, hL, hQe]; (repeat' (first | exact trivial | exact rfl | (refine ⟨Or.inl rfl, ?_⟩) | (refine ⟨Or.inr rfl, ?_⟩) | (refine ⟨Or.inr trivial, ?_⟩) | (refine ⟨rfl, ?_⟩) | (refine ⟨?_, ?_⟩)))
               · rw [hE]; (repeat' (first | exact trivial | exact rfl | (refine ⟨Or.inl rfl, ?_⟩) | (refine ⟨Or.inr rfl, ?_⟩) | (refine ⟨Or.inr trivial, ?_⟩) | (refine ⟨rfl, ?_⟩) | (refine ⟨?_, ?_⟩))))
            | trace_state
  · have hkl : k = (curP l).length := by omega
    subst hkl
    rw [List.drop_length, List.take_length]
    rw [show ([] : List ByteArray).flatMap (pcC l) = [] from rfl]
    have g2 : ltb 0 ((([] : List Db).length : Nat) : Int) = false := by rw [ltb_f, List.length_nil]; omega
    repeat' (first | ((with_reducible refine gRc ?_); refine AW_freeze [2] (id := 2000) ⟨rfl, trivial⟩ rfl rfl ?_) | ((with_reducible refine gA ?_); (first | refine AW_seq ?_ | refine AW_region ?_ | (refine AW_condN rfl ?_ ?_; assumption) | refine AW_ret ?_ | refine AW_exit ?_)) | ((with_reducible refine gS ?_); refine Es_s (T := Tryz.tab) rfl rfl rfl rfl ?_) | (((with_reducible refine gS ?_); apply Es_q); rfl; rfl; refine LStep_lenM (T := Tryz.tab) rfl rfl rfl rfl) | (with_reducible refine Es_nil ?_) | (with_reducible refine then_n ?_) | (with_reducible refine then_e ?_) | ((with_reducible refine block_e ?_ ?_); rfl))
    all_goals first
      | rfl
      | trace_state
end Go.Proofs.YtofdnkgieigncaaGreat
