import Derived.Test.YtofdnkgieigncaaGreatNR
namespace Go.Proofs.YtofdnkgieigncaaGreat
open Go.SL
/-! ### Net -/
def badS (l : List Db) : Prop := ∃ s, 1099511627776 < psI l s ∨ psI l s < -1099511627776
theorem netLf_len : ∀ (f : Nat) (P : List (SK × Int)), (netLf f P).length ≤ P.length
  | 0, P => by simp [netLf]
  | f + 1, [] => by simp [netLf]
  | f + 1, x :: r => by
    unfold netLf
    rw [List.length_append, tagC_len]
    have h1 := setA_le (grp (x :: r.takeWhile fun y => decide (y.1.2 = x.1.2)))
    have h2 := netLf_len f (r.dropWhile fun y => decide (y.1.2 = x.1.2))
    have h3 : (r.takeWhile fun y => decide (y.1.2 = x.1.2)).length + (r.dropWhile fun y => decide (y.1.2 = x.1.2)).length = r.length := by
      rw [← List.length_append, List.takeWhile_append_dropWhile]
    have h4 : (grp (x :: r.takeWhile fun y => decide (y.1.2 = x.1.2))).length = (r.takeWhile fun y => decide (y.1.2 = x.1.2)).length + 1 := by unfold grp; simp
    rw [List.length_cons]
    omega
theorem netL_len (P : List (SK × Int)) : (netL P).length ≤ P.length := netLf_len _ _
def netR (l : List Db) (r : AV) : Prop := (badS l ∧ r = .tup [.d (.sl 4 []), .d (.sc (.int .i64 3))]) ∨ (¬ badS l ∧ r = .tup [.d (.sl 4 ((netN l).map dbE)), .d (.sc (.int .i64 0))])
/-- the rest of a row by groups -/
theorem grp_step {P : List (SK × Int)} {n : Nat} {c : ByteArray} (hn : 1 ≤ n) (hnl : n ≤ P.length) (h1 : ∀ x ∈ P.take n, x.1.2 = c) (h2 : ∀ x, P[n]? = some x → x.1.2 ≠ c) : netL P = tagC c (setA (grp (P.take n))) ++ netL (P.drop n) := by
  have := netL_app (A := P.take n) (B := P.drop n) (c := c) h1 (fun e => absurd (congrArg List.length e) (by rw [List.length_take, List.length_nil]; omega)) (fun x hx => h2 x (by rw [List.head?_drop] at hx; exact hx))
  rwa [List.take_append_drop] at this
theorem rw_grp {A : List (SK × Int)} {c : ByteArray} (h : ∀ x ∈ A, x.1.2 = c) : rwE c (grp A) = A.map enE := by
  unfold rwE grp
  rw [List.map_map]
  refine List.map_congr_left (fun x hx => ?_)
  have := h x hx
  obtain ⟨⟨p, q⟩, n⟩ := x
  dsimp only at this
  subst this
  rfl
set_option maxRecDepth 10000 in
set_option maxHeartbeats 16000000 in
theorem net_ac (l : List Db) (hl : l.length ≤ 4096) (h : l.all mayD = true) : AC Tryz.prog 15 [.d (.sl 4 (l.map dbE))] [] [] (fun r _ => netR l r) := by
  have cm := mayAll_ac l hl
  rw [h] at cm
  have cp := positions_ac l hl
  rw [mF_all h] at cp
  have hbdI := psI_mF (l := l) hl
  rw [mF_all h] at hbdI
  refine AC_enter Tryz.func15 rfl Tryz.ntmps15 (rv := [.tmp 2, .tmp 3]) rfl rfl (by simp) (fun w X G => ?_)
  repeat' (first | ((with_reducible refine gS ?_); refine Es_callExN (ι := List (SK × Int)) (I := fun v => v.Perm (nzP (psM l))) (hr := fun v => [(2000, some (.arr 34 3 (v.map enE)))]) (rv := fun v => .own 2000 v.length) (fun v => [(13, some (.arr 34 3 (v.map enE)))]) (fun v => .own 13 v.length) [] [] [(2000, 13)] cp rfl rfl rfl rfl trivial rfl (fun v _ => rfl) (fun v _ => trivial) rfl (fun v => rfl) (fun v => rfl) (fun v hv => ?_)) | ((with_reducible refine gA ?_); (first | refine AW_seq ?_ | refine AW_region ?_ | refine AW_condF rfl ?_ | refine AW_skip ?_)) | ((with_reducible refine gS ?_); refine Es_s (T := Tryz.tab) rfl rfl rfl rfl ?_) | (((with_reducible refine gS ?_); apply Es_q); rfl; rfl; refine LStep_call (cm) rfl rfl rfl rfl) | (refine Es_skip rfl ?_ rfl ?_; (first | rfl | (refine w_tf ?_; assumption) | (refine w_ft ?_; assumption))) | (with_reducible refine Es_nil ?_) | (with_reducible refine then_n ?_))
  have hnl := nz_len hv
  have cv := sortC_ac l v hv (by omega)
  have hperm := (pos_perm hv).2
  have hvm : ∀ x ∈ v, psI l x.1 = x.2 ∧ x.2 ≠ 0 := fun x hx => (posC_mem l x).1 (hperm.mem_iff.2 hx)
  have hlv : (v.map enE).length = v.length := List.length_map _
  clear cm cp
  repeat' (first | ((with_reducible refine gA ?_); refine AW_block ?_) | ((with_reducible refine gS ?_); refine Es_s (T := Tryz.tab) rfl rfl rfl rfl ?_) | (((with_reducible refine gS ?_); apply Es_q); rfl; rfl; refine LStep_lenOwn (T := Tryz.tab) rfl rfl rfl rfl rfl hlv) | (with_reducible refine Es_nil ?_) | (with_reducible refine then_n ?_))
  refine AW_forE (S := Nat) (fun k => k ≤ v.length ∧ ∀ x ∈ v.take k, -1099511627776 ≤ x.2 ∧ x.2 ≤ 1099511627776) (fun k => [(16, .d (.sc (.int .i64 (k : Nat))))]) (fun _ => []) (fun k => v.length - k) 0 ⟨by omega, by simp⟩ (by (repeat' (first | exact trivial | exact rfl | (refine ⟨Or.inl rfl, ?_⟩) | (refine ⟨Or.inr rfl, ?_⟩) | (refine ⟨Or.inr trivial, ?_⟩) | (refine ⟨rfl, ?_⟩) | (refine ⟨?_, ?_⟩)))) (by (repeat' (first | exact trivial | exact rfl | (refine ⟨Or.inl rfl, ?_⟩) | (refine ⟨Or.inr rfl, ?_⟩) | (refine ⟨Or.inr trivial, ?_⟩) | (refine ⟨rfl, ?_⟩) | (refine ⟨?_, ?_⟩)))) ?_
  intro k ⟨hk, hall⟩
  by_cases hlt : k < v.length
  · obtain ⟨x, hx, _⟩ := drop_at hlt
    have hxm := hvm x (List.mem_of_getElem? hx)
    have g1 : ltb (k : Nat) (v.length : Nat) = true := by rw [ltb_t]; omega
    have hbad : (1099511627776 < x.2 ∨ x.2 < -1099511627776) → badS l := fun hb => ⟨x.1, by rw [hxm.1]; exact hb⟩
    have hge : (v.map enE)[k]? = some (enE x) := by rw [List.getElem?_map, hx]; rfl
    obtain ⟨⟨p, c⟩, n⟩ := x
    dsimp only at hbad hxm
    unfold enE at hge
    dsimp only at hge
    repeat' (first | ((with_reducible refine gRc ?_); refine AW_nilD 4 2 rfl ?_) | ((with_reducible refine gA ?_); (first | refine AW_seq ?_ | refine AW_region ?_ | refine AW_condT rfl ?_ | (refine AW_condY rfl ?_ ?_; assumption) | (refine AW_cond rfl (fun hc => ?_) (fun hc => ?_) <;> try (exfalso; simp only [cmpL] at hc; omega)) | refine AW_block ?_ | refine AW_ret ?_ | refine AW_skip ?_)) | ((with_reducible refine gS ?_); refine Es_s (T := Tryz.tab) rfl rfl rfl rfl ?_) | (((with_reducible refine gS ?_); apply Es_q); rfl; (first | rfl | (refine w_ff ?_; assumption)); (first | (refine LStep_indexOwnM (T := Tryz.tab) rfl rfl rfl rfl rfl rfl rfl hlv ?_; (rw [hlv]; exact hlt)) | (refine LStep_loadEA (T := Tryz.tab) rfl rfl rfl rfl rfl rfl hlv hge ?_; (refine Nat.le_of_ble_eq_true ?_; rfl)))) | (((with_reducible refine gS ?_); apply Es_q); rfl; (first | rfl | (refine w_ff ?_; assumption)); (first | refine LStep_simp (T := Tryz.tab) rfl rfl | (refine LStep_add rfl rfl rfl rfl ?_; (refine IntWalk.i64_in _ ?_; first | omega | (simp only [cmps] at *; omega))) | (refine LStep_pickT rfl rfl ?_ rfl rfl; assumption) | (refine LStep_pickF rfl rfl ?_ rfl rfl; assumption))) | (refine Es_skip rfl ?_ rfl ?_; (first | rfl | (refine w_tf ?_; assumption) | (refine w_ft ?_; assumption))) | (((with_reducible refine gS ?_); apply Es_xs); rfl; rfl; refine LStep_allocN (T := Tryz.tab) rfl rfl rfl rfl rfl rfl; rfl) | (((with_reducible refine gS ?_); apply Es_xn); rfl; rfl; (refine LStep_storeN (T := Tryz.tab) rfl rfl rfl rfl rfl rfl rfl ?_ rfl; (refine Nat.le_of_ble_eq_true ?_; rfl)); rfl) | (refine Es_split rfl ?_ (fun _ => ?_) (fun _ => ?_); ((fail_if_success (refine und_t ?_; assumption)); (fail_if_success (refine und_f ?_; assumption)); exact trivial)) | (with_reducible refine Es_nil ?_) | (with_reducible refine then_n ?_) | (with_reducible refine then_r ?_) | (with_reducible refine block_n ?_) | (with_reducible refine block_r ?_) | ((with_reducible refine gR ?_); first | refine ret1 rfl ?_ | refine ret2 rfl rfl ?_ | refine ret0 ?_ | refine end1 rfl ?_ | refine end0 ?_))
    all_goals try simp only [cmps] at *
    all_goals first
      | (exfalso; omega)
      | exact .inl ⟨hbad (by omega), rfl⟩
      | (refine ⟨k + 1, ?_, by omega, by (repeat' (first | exact trivial | exact rfl | (refine ⟨Or.inl rfl, ?_⟩) | (refine ⟨Or.inr rfl, ?_⟩) | (refine ⟨Or.inr trivial, ?_⟩) | (refine ⟨rfl, ?_⟩) | (refine ⟨?_, ?_⟩))), by (repeat' (first | exact trivial | exact rfl | (refine ⟨Or.inl rfl, ?_⟩) | (refine ⟨Or.inr rfl, ?_⟩) | (refine ⟨Or.inr trivial, ?_⟩) | (refine ⟨rfl, ?_⟩) | (refine ⟨?_, ?_⟩))), by (repeat' (first | exact trivial | exact rfl | (refine ⟨Or.inl rfl, ?_⟩) | (refine ⟨Or.inr rfl, ?_⟩) | (refine ⟨Or.inr trivial, ?_⟩) | (refine ⟨rfl, ?_⟩) | (refine ⟨?_, ?_⟩))), by (repeat' (first | exact trivial | exact rfl | (refine ⟨Or.inl rfl, ?_⟩) | (refine ⟨Or.inr rfl, ?_⟩) | (refine ⟨Or.inr trivial, ?_⟩) | (refine ⟨rfl, ?_⟩) | (refine ⟨?_, ?_⟩)))⟩; (refine ⟨by omega, fun y hy => ?_⟩; rcases mem_take_snoc hx hy with r | r; (exact hall y r); (rw [r]; dsimp only; omega)))
      | trace_state
  · have hkl : k = v.length := by omega
    subst hkl
    rw [List.take_length] at hall
    have g1 : ltb (v.length : Nat) (v.length : Nat) = false := by rw [ltb_f]; omega
    have hgood : ¬ badS l := fun ⟨s, hs⟩ => by
      have := hall (s, psI l s) (hperm.mem_iff.1 ((posC_mem l _).2 ⟨rfl, by dsimp only; omega⟩))
      dsimp only at this
      omega
    have hll : (v.map enE).length = ((posC l).map enE).length := by rw [List.length_map, List.length_map, hperm.length_eq]
    have hPl : ((posC l).map enE).length = v.length := by rw [← hll, hlv]
    have hPb : ∀ x ∈ posC l, -1099511627776 ≤ x.2 ∧ x.2 ≤ 1099511627776 := fun x hx => hall x (hperm.mem_iff.1 hx)
    have hPn := hperm.length_eq
    have hR : ∀ E, E = netL (posC l) → netR l (.tup [.d (.sl 4 (E.map dbE)), .d (.sc (.int .i64 0))]) := fun E hE => .inr ⟨hgood, by rw [netN_L, hE]⟩
    have hNL := netL_len (posC l)
    clear hall hperm hvm hv hbdI h
    generalize posC l = P at *
    generalize hN : v.length = N at *
    repeat' (first | ((with_reducible refine gA ?_); (first | refine AW_seq ?_ | refine AW_region ?_ | (refine AW_condN rfl ?_ ?_; assumption) | refine AW_block ?_ | refine AW_exit ?_)) | ((with_reducible refine gS ?_); refine Es_s (T := Tryz.tab) rfl rfl rfl rfl ?_) | (((with_reducible refine gS ?_); apply Es_xg); rfl; rfl; refine LStep_callHN [(1000, 13)] [] cv rfl rfl ⟨rfl, trivial⟩ rfl ⟨hll, trivial⟩ rfl rfl; rfl) | (with_reducible refine Es_nil ?_) | (with_reducible refine then_n ?_) | (with_reducible refine then_e ?_) | ((with_reducible refine block_e ?_ ?_); rfl))
    refine AW_openNil (t := 7) (id := 2000) (e := 55) (sz := 4) rfl rfl rfl rfl ?_
    refine AW_asPart 4 (id := 13) (sz := 3) rfl rfl hPl ?_
    refine AW_forE (S := Nat × List (List D) × List Db) (fun z => (∃ X : List (List D), X.length = z.1 ∧ z.2.1 = X ++ (P.drop z.1).map enE) ∧ z.1 ≤ N ∧ z.2.2 ++ netL (P.drop z.1) = netL P) (fun z => [(4, .part 13 N 3 z.1 (N - z.1)), (7, .own 2000 (z.2.2.map dbE).length)]) (fun z => [(13, some (.arr 34 3 z.2.1)), (2000, some (.arr 55 4 (z.2.2.map dbE)))]) (fun z => N - z.1) (0, P.map enE, []) ⟨⟨[], rfl, rfl⟩, by omega, rfl⟩ (by (repeat' (first | exact trivial | exact rfl | (refine ⟨Or.inl rfl, ?_⟩) | (refine ⟨Or.inr rfl, ?_⟩) | (refine ⟨Or.inr trivial, ?_⟩) | (refine ⟨rfl, ?_⟩) | (refine ⟨?_, ?_⟩)))) (by (repeat' (first | exact trivial | exact rfl | (refine ⟨Or.inl rfl, ?_⟩) | (refine ⟨Or.inr rfl, ?_⟩) | (refine ⟨Or.inr trivial, ?_⟩) | (refine ⟨rfl, ?_⟩) | (refine ⟨?_, ?_⟩)))) ?_
    intro ⟨o, W, E⟩ ⟨⟨X, hX, hW⟩, ho, hE⟩
    dsimp only at hX hW ho hE ⊢
    have hWl : W.length = N := by rw [hW, List.length_append, List.length_map, List.length_drop]; omega
    by_cases hlo : o < N
    · have g2 : ltb 0 ((N - o : Nat) : Int) = true := by rw [ltb_t]; omega
      obtain ⟨x0, hx0, hd0⟩ := drop_at (l := P) (k := o) (by omega)
      have hgetW : ∀ (k : Nat) (x : SK × Int), P[o + k]? = some x → W[o + k]? = some (enE x) := fun k x hx => by
        rw [hW, List.getElem?_append_right (by omega), List.getElem?_map, List.getElem?_drop, show o + (o + k - X.length) = o + k by omega, hx]; rfl
      have hw0 := hgetW 0 x0 (by rw [Nat.add_zero]; exact hx0)
      obtain ⟨⟨p0, c⟩, n0⟩ := x0
      unfold enE at hw0
      dsimp only at hw0
      repeat' (first | ((with_reducible refine gA ?_); (first | refine AW_seq ?_ | refine AW_region ?_ | (refine AW_condY rfl ?_ ?_; assumption) | refine AW_block ?_ | refine AW_skip ?_)) | ((with_reducible refine gS ?_); refine Es_s (T := Tryz.tab) rfl rfl rfl rfl ?_) | (((with_reducible refine gS ?_); apply Es_q); rfl; rfl; refine LStep_lenPart (T := Tryz.tab) rfl rfl rfl rfl rfl hWl) | (with_reducible refine Es_nil ?_) | (with_reducible refine then_n ?_))
      refine AW_forE (S := Nat) (fun n => 1 ≤ n ∧ n ≤ N - o ∧ ∀ x ∈ (P.drop o).take n, x.1.2 = c) (fun n => [(8, .d (.sc (.int .i64 (n : Nat))))]) (fun _ => []) (fun n => N - o - n) 1 ⟨by omega, by omega, fun x hx => by rw [hd0] at hx; simp at hx; rw [hx]⟩ (by (repeat' (first | exact trivial | exact rfl | (refine ⟨Or.inl rfl, ?_⟩) | (refine ⟨Or.inr rfl, ?_⟩) | (refine ⟨Or.inr trivial, ?_⟩) | (refine ⟨rfl, ?_⟩) | (refine ⟨?_, ?_⟩)))) (by (repeat' (first | exact trivial | exact rfl | (refine ⟨Or.inl rfl, ?_⟩) | (refine ⟨Or.inr rfl, ?_⟩) | (refine ⟨Or.inr trivial, ?_⟩) | (refine ⟨rfl, ?_⟩) | (refine ⟨?_, ?_⟩)))) ?_
      intro n ⟨hn1, hn2, hnc⟩
      have tail : (∀ x, (P.drop o)[n]? = some x → x.1.2 ≠ c) → netL (P.drop o) = tagC c (setA (grp ((P.drop o).take n))) ++ netL (P.drop (o + n)) := fun hx => by
        have := grp_step (P := P.drop o) (n := n) hn1 (by rw [List.length_drop]; omega) hnc hx
        rwa [List.drop_drop] at this
      have hg0 : (0 : Nat) < N - o := by omega
      by_cases hln : n < N - o
      · have g3 : ltb ((n : Nat) : Int) ((N - o : Nat) : Int) = true := by rw [ltb_t]; omega
        obtain ⟨xn, hxn, _⟩ := drop_at (l := P) (k := o + n) (by omega)
        have hwn := hgetW n xn hxn
        have hxn' : (P.drop o)[n]? = some xn := by rw [List.getElem?_drop]; exact hxn
        obtain ⟨⟨pn, cn⟩, nn⟩ := xn
        unfold enE at hwn
        dsimp only at hwn
        by_cases hcc : cn = c
        · have g4 : eqs cn c = true := by rw [eqs_t]; exact hcc
          repeat' (first | ((with_reducible refine gA ?_); (first | refine AW_seq ?_ | refine AW_region ?_ | refine AW_regionD Tryz.mixed ?_ | (refine AW_condY rfl ?_ ?_; assumption) | refine AW_block ?_ | refine AW_skip ?_)) | (first | ((with_reducible refine gS ?_); refine Es_s (T := Tryz.tab) rfl rfl rfl rfl ?_) | ((with_reducible refine gD ?_); refine Ed_s (T := Tryz.tab) rfl rfl rfl rfl ?_)) | ((first | ((with_reducible refine gS ?_); apply Es_q) | ((with_reducible refine gD ?_); apply Ed_q)); rfl; (first | rfl | (refine w_tt ?_; assumption)); (first | refine LStep_lenPart (T := Tryz.tab) rfl rfl rfl rfl rfl hWl | refine LStep_indexPartM (T := Tryz.tab) (k := 0) rfl rfl rfl rfl rfl rfl rfl hWl hg0 | (refine LStep_indexPartM (T := Tryz.tab) rfl rfl rfl rfl rfl rfl rfl hWl ?_; omega) | refine LStep_fieldAddrE (T := Tryz.tab) rfl rfl rfl rfl _ _ rfl hWl | refine LStep_loadE (T := Tryz.tab) rfl rfl rfl rfl rfl hWl hw0 rfl | refine LStep_loadE (T := Tryz.tab) rfl rfl rfl rfl rfl hWl hwn rfl)) | ((first | ((with_reducible refine gS ?_); apply Es_q) | ((with_reducible refine gD ?_); apply Ed_q)); rfl; (first | rfl | (refine w_tt ?_; assumption)); (first | refine LStep_simp (T := Tryz.tab) rfl rfl | (refine LStep_add rfl rfl rfl rfl ?_; (refine IntWalk.i64_in _ ?_; first | omega | (simp only [cmps] at *; omega))) | (refine LStep_pickT rfl rfl ?_ rfl rfl; assumption))) | (with_reducible refine Es_nil ?_) | ((with_reducible refine Ed_nil ?_ ?_); kernel_rfl) | (with_reducible refine then_n ?_) | (with_reducible refine block_n ?_))
          all_goals first
            | (refine ⟨n + 1, ?_, by omega, by (repeat' (first | exact trivial | exact rfl | (refine ⟨Or.inl rfl, ?_⟩) | (refine ⟨Or.inr rfl, ?_⟩) | (refine ⟨Or.inr trivial, ?_⟩) | (refine ⟨rfl, ?_⟩) | (refine ⟨?_, ?_⟩))), by (repeat' (first | exact trivial | exact rfl | (refine ⟨Or.inl rfl, ?_⟩) | (refine ⟨Or.inr rfl, ?_⟩) | (refine ⟨Or.inr trivial, ?_⟩) | (refine ⟨rfl, ?_⟩) | (refine ⟨?_, ?_⟩))), by (repeat' (first | exact trivial | exact rfl | (refine ⟨Or.inl rfl, ?_⟩) | (refine ⟨Or.inr rfl, ?_⟩) | (refine ⟨Or.inr trivial, ?_⟩) | (refine ⟨rfl, ?_⟩) | (refine ⟨?_, ?_⟩))), by (repeat' (first | exact trivial | exact rfl | (refine ⟨Or.inl rfl, ?_⟩) | (refine ⟨Or.inr rfl, ?_⟩) | (refine ⟨Or.inr trivial, ?_⟩) | (refine ⟨rfl, ?_⟩) | (refine ⟨?_, ?_⟩)))⟩; (refine ⟨by omega, by omega, fun y hy => ?_⟩; rcases mem_take_snoc hxn' hy with r | r; (exact hnc y r); (rw [r]; exact hcc)))
            | trace_state
        · have g4 : eqs cn c = false := by rw [eqs_f]; exact hcc
          have hx2 : ∀ x, (P.drop o)[n]? = some x → x.1.2 ≠ c := fun x hx => by rw [hxn'] at hx; cases hx; exact hcc
          have hstep := tail hx2
          have hWw : W = whole X ((P.drop (o + n)).map enE) c (grp ((P.drop o).take n)) := by
            unfold whole
            rw [rw_grp hnc, List.append_assoc, ← List.map_append, hW]
            congr 2
            rw [← List.drop_drop, List.take_append_drop]
          have hAl : (grp ((P.drop o).take n)).length = n := by unfold grp; rw [List.length_map, List.length_take, List.length_drop]; omega
          have hAb : ∀ a ∈ grp ((P.drop o).take n), -4503599627370496 ≤ a.2 ∧ a.2 ≤ 4503599627370496 := fun a ha => by
            unfold grp at ha
            obtain ⟨x, hx, rfl⟩ := List.mem_map.1 ha
            have := hPb x (List.mem_of_mem_drop (List.mem_of_mem_take hx))
            dsimp only
            omega
          have cs := settle_ac X ((P.drop (o + n)).map enE) c (grp ((P.drop o).take n)) hAb (by rw [← hWw, hWl]; omega)
          have hwlen : ∀ A' : List PA, A'.length = (grp ((P.drop o).take n)).length → (whole X ((P.drop (o + n)).map enE) c A').length = W.length := fun A' hA' => by rw [hWw, whole_len, whole_len, hA']
          have hEl : (E ++ tagC c (setA (grp ((P.drop o).take n)))) ++ netL (P.drop (o + n)) = netL P := by rw [List.append_assoc, ← hstep]; exact hE
          have hEll : E.length + (tagC c (setA (grp ((P.drop o).take n)))).length ≤ N := by
            have := congrArg List.length hEl
            rw [List.length_append, List.length_append] at this
            omega
          unfold hS at cs
          rw [← hWw, hWl, hX] at cs
          generalize hAA : grp ((P.drop o).take n) = A at *
          rw [hAl] at cs hwlen
          generalize hT : tagC c (setA A) = T at *
          have hmE : (E ++ T).map dbE = E.map dbE ++ T.map dbE := List.map_append
          have hN1 : N - o - n = N - (o + n) := by omega
          repeat' (first | ((with_reducible refine gS ?_); refine Es_callExN (ι := List PA) (I := fun A' => A'.length = n) (hr := fun A' => [(1000, some (.arr 34 3 (whole X ((P.drop (o + n)).map enE) c A')))]) (rv := fun _ => .d (.sl 4 (T.map dbE))) (fun A' => [(13, some (.arr 34 3 (whole X ((P.drop (o + n)).map enE) c A')))]) (fun _ => .d (.sl 4 (T.map dbE))) [] [(1000, 13)] [] cs rfl rfl rfl rfl ⟨rfl, trivial⟩ rfl (fun v _ => rfl) (fun v hv => ⟨(hwlen v hv).symm, trivial⟩) rfl (fun v => rfl) (fun v => rfl) (fun A' hA' => ?_)) | ((with_reducible refine gA ?_); (first | refine AW_seq ?_ | refine AW_region ?_ | refine AW_regionD Tryz.mixed ?_ | (refine AW_condN rfl ?_ ?_; assumption) | refine AW_exit ?_)) | (first | ((with_reducible refine gS ?_); refine Es_s (T := Tryz.tab) rfl rfl rfl rfl ?_) | ((with_reducible refine gD ?_); refine Ed_s (T := Tryz.tab) rfl rfl rfl rfl ?_)) | ((first | ((with_reducible refine gS ?_); apply Es_q) | ((with_reducible refine gD ?_); apply Ed_q)); rfl; (first | rfl | (refine w_tt ?_; assumption)); (first | refine LStep_lenPart (T := Tryz.tab) rfl rfl rfl rfl rfl hWl | refine LStep_indexPartM (T := Tryz.tab) (k := 0) rfl rfl rfl rfl rfl rfl rfl hWl hg0 | (refine LStep_indexPartM (T := Tryz.tab) rfl rfl rfl rfl rfl rfl rfl hWl ?_; omega) | refine LStep_fieldAddrE (T := Tryz.tab) rfl rfl rfl rfl _ _ rfl hWl | refine LStep_loadE (T := Tryz.tab) rfl rfl rfl rfl rfl hWl hw0 rfl | refine LStep_loadE (T := Tryz.tab) rfl rfl rfl rfl rfl hWl hwn rfl | refine LStep_partPartTo (T := Tryz.tab) rfl rfl rfl rfl rfl rfl rfl hWl hn2)) | ((first | ((with_reducible refine gS ?_); apply Es_q) | ((with_reducible refine gD ?_); apply Ed_q)); rfl; (first | rfl | (refine w_tt ?_; assumption)); (first | refine LStep_simp (T := Tryz.tab) rfl rfl | (refine LStep_pickT rfl rfl ?_ rfl rfl; assumption))) | (refine Es_skip rfl ?_ rfl ?_; (first | rfl | (refine w_tf ?_; assumption) | (refine w_ft ?_; assumption))) | ((with_reducible refine Ed_nil ?_ ?_); kernel_rfl) | (with_reducible refine then_n ?_) | (with_reducible refine then_e ?_) | ((with_reducible refine block_e ?_ ?_); rfl))
          have hWl2 : (whole X ((P.drop (o + n)).map enE) c A').length = N := (hwlen A' hA').trans hWl
          repeat' (first | ((with_reducible refine gA ?_); refine AW_region ?_) | ((with_reducible refine gS ?_); refine Es_s (T := Tryz.tab) rfl rfl rfl rfl ?_) | (((with_reducible refine gS ?_); apply Es_q); rfl; rfl; refine LStep_partPartFrom (T := Tryz.tab) rfl rfl rfl rfl rfl rfl rfl hWl2 hn2) | (((with_reducible refine gS ?_); apply Es_xs); rfl; rfl; (refine LStep_append (T := Tryz.tab) rfl rfl rfl rfl rfl rfl rfl rfl rfl rfl ?_ ?_ ?_; rfl; (simp only [List.length_map]; omega); (unfold maxLen; simp only [List.length_map]; omega)); rfl) | (with_reducible refine Es_nil ?_) | (with_reducible refine then_n ?_) | (with_reducible refine block_n ?_))
          all_goals first
            | (refine ⟨(o + n, whole X ((P.drop (o + n)).map enE) c A', E ++ T), ⟨⟨X ++ rwE c A', by (dsimp only; rw [List.length_append, hX]; unfold rwE; rw [List.length_map, hA']), rfl⟩, by (dsimp only; omega), hEl⟩, by (dsimp only; omega), ?_, by (repeat' (first | exact trivial | exact rfl | (refine ⟨Or.inl rfl, ?_⟩) | (refine ⟨Or.inr rfl, ?_⟩) | (refine ⟨Or.inr trivial, ?_⟩) | (refine ⟨rfl, ?_⟩) | (refine ⟨?_, ?_⟩))), ?_, by (repeat' (first | exact trivial | exact rfl | (refine ⟨Or.inl rfl, ?_⟩) | (refine ⟨Or.inr rfl, ?_⟩) | (refine ⟨Or.inr trivial, ?_⟩) | (refine ⟨rfl, ?_⟩) | (refine ⟨?_, ?_⟩)))⟩
               · dsimp only; rw [hmE, ← hN1]; (repeat' (first | exact trivial | exact rfl | (refine ⟨Or.inl rfl, ?_⟩) | (refine ⟨Or.inr rfl, ?_⟩) | (refine ⟨Or.inr trivial, ?_⟩) | (refine ⟨rfl, ?_⟩) | (refine ⟨?_, ?_⟩)))
               · dsimp only; rw [hmE]; (repeat' (first | exact trivial | exact rfl | (refine ⟨Or.inl rfl, ?_⟩) | (refine ⟨Or.inr rfl, ?_⟩) | (refine ⟨Or.inr trivial, ?_⟩) | (refine ⟨rfl, ?_⟩) | (refine ⟨?_, ?_⟩))))
            | trace_state
      · have hnN : n = N - o := by omega
        have g3 : ltb ((n : Nat) : Int) ((N - o : Nat) : Int) = false := by rw [ltb_f]; omega
        have hx2 : ∀ x, (P.drop o)[n]? = some x → x.1.2 ≠ c := fun x hx => by rw [List.getElem?_eq_none (by rw [List.length_drop]; omega)] at hx; cases hx
        have hwn := hw0
        have hstep := tail hx2
        have hWw : W = whole X ((P.drop (o + n)).map enE) c (grp ((P.drop o).take n)) := by
          unfold whole
          rw [rw_grp hnc, List.append_assoc, ← List.map_append, hW]
          congr 2
          rw [← List.drop_drop, List.take_append_drop]
        have hAl : (grp ((P.drop o).take n)).length = n := by unfold grp; rw [List.length_map, List.length_take, List.length_drop]; omega
        have hAb : ∀ a ∈ grp ((P.drop o).take n), -4503599627370496 ≤ a.2 ∧ a.2 ≤ 4503599627370496 := fun a ha => by
          unfold grp at ha
          obtain ⟨x, hx, rfl⟩ := List.mem_map.1 ha
          have := hPb x (List.mem_of_mem_drop (List.mem_of_mem_take hx))
          dsimp only
          omega
        have cs := settle_ac X ((P.drop (o + n)).map enE) c (grp ((P.drop o).take n)) hAb (by rw [← hWw, hWl]; omega)
        have hwlen : ∀ A' : List PA, A'.length = (grp ((P.drop o).take n)).length → (whole X ((P.drop (o + n)).map enE) c A').length = W.length := fun A' hA' => by rw [hWw, whole_len, whole_len, hA']
        have hEl : (E ++ tagC c (setA (grp ((P.drop o).take n)))) ++ netL (P.drop (o + n)) = netL P := by rw [List.append_assoc, ← hstep]; exact hE
        have hEll : E.length + (tagC c (setA (grp ((P.drop o).take n)))).length ≤ N := by
          have := congrArg List.length hEl
          rw [List.length_append, List.length_append] at this
          omega
        unfold hS at cs
        rw [← hWw, hWl, hX] at cs
        generalize hAA : grp ((P.drop o).take n) = A at *
        rw [hAl] at cs hwlen
        generalize hT : tagC c (setA A) = T at *
        have hmE : (E ++ T).map dbE = E.map dbE ++ T.map dbE := List.map_append
        have hN1 : N - o - n = N - (o + n) := by omega
        repeat' (first | ((with_reducible refine gS ?_); refine Es_callExN (ι := List PA) (I := fun A' => A'.length = n) (hr := fun A' => [(1000, some (.arr 34 3 (whole X ((P.drop (o + n)).map enE) c A')))]) (rv := fun _ => .d (.sl 4 (T.map dbE))) (fun A' => [(13, some (.arr 34 3 (whole X ((P.drop (o + n)).map enE) c A')))]) (fun _ => .d (.sl 4 (T.map dbE))) [] [(1000, 13)] [] cs rfl rfl rfl rfl ⟨rfl, trivial⟩ rfl (fun v _ => rfl) (fun v hv => ⟨(hwlen v hv).symm, trivial⟩) rfl (fun v => rfl) (fun v => rfl) (fun A' hA' => ?_)) | ((with_reducible refine gA ?_); (first | refine AW_seq ?_ | refine AW_region ?_ | refine AW_regionD Tryz.mixed ?_ | refine AW_condF rfl ?_ | refine AW_exit ?_)) | (first | ((with_reducible refine gS ?_); refine Es_s (T := Tryz.tab) rfl rfl rfl rfl ?_) | ((with_reducible refine gD ?_); refine Ed_s (T := Tryz.tab) rfl rfl rfl rfl ?_)) | ((first | ((with_reducible refine gS ?_); apply Es_q) | ((with_reducible refine gD ?_); apply Ed_q)); rfl; rfl; (first | refine LStep_lenPart (T := Tryz.tab) rfl rfl rfl rfl rfl hWl | refine LStep_partPartTo (T := Tryz.tab) rfl rfl rfl rfl rfl rfl rfl hWl hn2)) | ((first | ((with_reducible refine gS ?_); apply Es_q) | ((with_reducible refine gD ?_); apply Ed_q)); rfl; rfl; (refine LStep_pickF rfl rfl ?_ rfl rfl; assumption)) | ((first | refine Es_skip rfl ?_ rfl ?_ | refine Ed_skip rfl ?_ rfl ?_); (first | rfl | (refine w_tf ?_; assumption) | (refine w_ft ?_; assumption))) | ((with_reducible refine Ed_nil ?_ ?_); kernel_rfl) | (with_reducible refine then_n ?_) | (with_reducible refine then_e ?_) | ((with_reducible refine block_e ?_ ?_); rfl))
        have hWl2 : (whole X ((P.drop (o + n)).map enE) c A').length = N := (hwlen A' hA').trans hWl
        repeat' (first | ((with_reducible refine gA ?_); refine AW_region ?_) | ((with_reducible refine gS ?_); refine Es_s (T := Tryz.tab) rfl rfl rfl rfl ?_) | (((with_reducible refine gS ?_); apply Es_q); rfl; rfl; refine LStep_partPartFrom (T := Tryz.tab) rfl rfl rfl rfl rfl rfl rfl hWl2 hn2) | (((with_reducible refine gS ?_); apply Es_xs); rfl; rfl; (refine LStep_append (T := Tryz.tab) rfl rfl rfl rfl rfl rfl rfl rfl rfl rfl ?_ ?_ ?_; rfl; (simp only [List.length_map]; omega); (unfold maxLen; simp only [List.length_map]; omega)); rfl) | (with_reducible refine Es_nil ?_) | (with_reducible refine then_n ?_) | (with_reducible refine block_n ?_))
        all_goals first
          | (refine ⟨(o + n, whole X ((P.drop (o + n)).map enE) c A', E ++ T), ⟨⟨X ++ rwE c A', by (dsimp only; rw [List.length_append, hX]; unfold rwE; rw [List.length_map, hA']), rfl⟩, by (dsimp only; omega), hEl⟩, by (dsimp only; omega), ?_, by (repeat' (first | exact trivial | exact rfl | (refine ⟨Or.inl rfl, ?_⟩) | (refine ⟨Or.inr rfl, ?_⟩) | (refine ⟨Or.inr trivial, ?_⟩) | (refine ⟨rfl, ?_⟩) | (refine ⟨?_, ?_⟩))), ?_, by (repeat' (first | exact trivial | exact rfl | (refine ⟨Or.inl rfl, ?_⟩) | (refine ⟨Or.inr rfl, ?_⟩) | (refine ⟨Or.inr trivial, ?_⟩) | (refine ⟨rfl, ?_⟩) | (refine ⟨?_, ?_⟩)))⟩
             · dsimp only; rw [hmE, ← hN1]; (repeat' (first | exact trivial | exact rfl | (refine ⟨Or.inl rfl, ?_⟩) | (refine ⟨Or.inr rfl, ?_⟩) | (refine ⟨Or.inr trivial, ?_⟩) | (refine ⟨rfl, ?_⟩) | (refine ⟨?_, ?_⟩)))
             · dsimp only; rw [hmE]; (repeat' (first | exact trivial | exact rfl | (refine ⟨Or.inl rfl, ?_⟩) | (refine ⟨Or.inr rfl, ?_⟩) | (refine ⟨Or.inr trivial, ?_⟩) | (refine ⟨rfl, ?_⟩) | (refine ⟨?_, ?_⟩))))
          | trace_state
    · have hoN : o = N := by omega
      subst hoN
      have g2 : ltb 0 ((o - o : Nat) : Int) = false := by rw [ltb_f]; omega
      rw [List.drop_eq_nil_of_le (by omega), netL_nil, List.append_nil] at hE
      repeat' (first | ((with_reducible refine gRc ?_); refine AW_freeze [2] (id := 2000) ⟨rfl, trivial⟩ rfl rfl ?_) | ((with_reducible refine gA ?_); (first | refine AW_seq ?_ | refine AW_region ?_ | (refine AW_condN rfl ?_ ?_; assumption) | refine AW_ret ?_ | refine AW_exit ?_)) | ((with_reducible refine gS ?_); refine Es_s (T := Tryz.tab) rfl rfl rfl rfl ?_) | (((with_reducible refine gS ?_); apply Es_q); rfl; rfl; refine LStep_lenPart (T := Tryz.tab) rfl rfl rfl rfl rfl hWl) | (with_reducible refine Es_nil ?_) | (with_reducible refine then_n ?_) | (with_reducible refine then_e ?_) | ((with_reducible refine block_e ?_ ?_); rfl) | ((with_reducible refine gR ?_); first | refine ret1 rfl ?_ | refine ret2 rfl rfl ?_ | refine ret0 ?_ | refine end1 rfl ?_ | refine end0 ?_))
      all_goals first
        | exact hR E hE
        | trace_state
end Go.Proofs.YtofdnkgieigncaaGreat
