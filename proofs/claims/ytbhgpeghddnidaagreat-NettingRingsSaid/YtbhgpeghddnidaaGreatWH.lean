import Derived.Test.YtbhgpeghddnidaaGreatWF
namespace Go.Proofs.YtbhgpeghddnidaaGreat
open Go.SL
/-! ### the document's rings: plain -/
theorem edg_lenB : ∀ r : List ByteArray, (edg r).length = r.length - 1
  | [] => rfl
  | [_] => rfl
  | a :: b :: r => by
    show (edg (b :: r)).length + 1 = _
    rw [edg_lenB (b :: r)]
    simp only [List.length_cons]
    omega
theorem edg_getB : ∀ (r : List ByteArray) (i : Nat), i + 1 < r.length → ∃ p q, r[i]? = some p ∧ r[i + 1]? = some q ∧ (edg r)[i]? = some (p, q)
  | [], _, h => by simp at h
  | [_], i, h => by simp at h
  | a :: b :: r, 0, _ => ⟨a, b, rfl, rfl, rfl⟩
  | a :: b :: r, i + 1, h => by
    obtain ⟨p, q, h1, h2, h3⟩ := edg_getB (b :: r) i (by simpa using h)
    exact ⟨p, q, h1, h2, h3⟩
theorem rng_getB {r : List ByteArray} (h : r ≠ []) {i : Nat} (hi : i < r.length) : ∃ p q, r[i]? = some p ∧ r[(((i + 1) % r.length : Nat) : Int).toNat]? = some q ∧ (rng zB r)[i]? = some (p, q) := by
  rw [Int.toNat_natCast]
  by_cases hl : i + 1 < r.length
  · obtain ⟨p, q, h1, h2, h3⟩ := edg_getB r i hl
    refine ⟨p, q, h1, by rw [Nat.mod_eq_of_lt hl]; exact h2, ?_⟩
    unfold rng
    rw [List.getElem?_append_left (by rw [edg_lenB]; omega), h3]
  · have hi' : i + 1 = r.length := by omega
    refine ⟨lstR zB r, fstR zB r, by rw [show i = r.length - 1 by omega]; exact lst_atB h, by rw [hi', Nat.mod_self]; exact fst_atB h, ?_⟩
    unfold rng
    rw [List.getElem?_append_right (by rw [edg_lenB]; omega), edg_lenB, show i - (r.length - 1) = 0 by omega]
    rfl
theorem los_nn {S : List ByteArray} {T : ByteArray → ByteArray → Int} (hT : Tab8 T S) : 0 ≤ (losR zB S lts T).2 := by
  refine losR_ind zB S lts (M := fun T => 0 ≤ (losR zB S lts T).2) (fun T hT h => ?_) (fun T r hT h hi ih => ?_) T hT
  · rw [losR_none zB h]; exact Int.le_refl 0
  · rw [losR_some zB hT h]
    have := (hi.least hT).1
    have h2 : 0 ≤ leastR zB T r * (r.length : Int) := Int.mul_nonneg (by omega) (by omega)
    dsimp only
    omega
/-- what a list of debts may be while rings are cleared -/
theorem may_of {d x : Db} (h : mayD d = true) (e : d.1 = x.1) (h1 : 1 ≤ x.2) (h2 : x.2 ≤ 1099511627776) : mayD x = true := by
  unfold mayD amtB at *
  simp only [Bool.and_eq_true, Bool.not_eq_true', leb_t] at *
  rw [← e]
  refine ⟨h.1, h.2.1, h.2.2.1, h1, h.2.2.2.2.1, ?_⟩
  have := h.2.2.2.2.2
  first
    | exact ⟨by omega, h2⟩
    | exact h2
    | (simp only [decide_eq_true_eq] at *; omega)
theorem fit_x {l X : List Db} {F : DK → Int} (hl : OkD l) (h : Told X F) (h1 : ∀ k, F k ≤ mx0 (netI l k)) : ∀ x ∈ X, 1 ≤ x.2 ∧ x.2 ≤ 1099511627776 ∧ ∃ d ∈ l, d.1 = x.1 := fun x hx => by
  obtain ⟨a, b⟩ := (h.2 x).1 hx
  have hk := h1 x.1
  have ht := hl.top x.1
  have hm : mx0 (netI l x.1) ≤ 1099511627776 := by unfold mx0; split <;> omega
  refine ⟨by omega, by omega, ow_pos_in (k := x.1) (tabN_pos (c := x.1.1) (p := x.1.2.1) (q := x.1.2.2) hl.one ?_)⟩
  unfold tabN
  show 0 < mx0 (netI l x.1)
  omega
theorem fit_len {l X : List Db} {F : DK → Int} (hl : OkD l) (h : Told X F) (h1 : ∀ k, F k ≤ mx0 (netI l k)) : X.length ≤ l.length := by
  have := nodup_le h.nodup (S := l.map (·.1)) (fun k hk => by
    obtain ⟨x, hx, rfl⟩ := List.mem_map.1 hk
    obtain ⟨d, hd, e⟩ := (fit_x hl h h1 x hx).2.2
    exact List.mem_map.2 ⟨d, hd, e⟩)
  rwa [List.length_map, List.length_map] at this
theorem fit_may {l X : List Db} {F : DK → Int} (hl : OkD l) (hm : l.all mayD = true) (h : Told X F) (h1 : ∀ k, F k ≤ mx0 (netI l k)) : X.all mayD = true := by
  rw [List.all_eq_true]
  intro x hx
  obtain ⟨a, b, d, hd, e⟩ := fit_x hl h h1 x hx
  exact may_of (all_may hm d hd) e a b
theorem fit_sm {l X : List Db} {F : DK → Int} (hl : OkD l) (hs : ∀ d ∈ l, smD d) (h : Told X F) (h1 : ∀ k, F k ≤ mx0 (netI l k)) : ∀ x ∈ X, smD x := fun x hx => by
  obtain ⟨a, b, d, hd, e⟩ := fit_x hl h h1 x hx
  have := hs d hd
  unfold smD at *
  rw [← e]
  exact this
/-- how the debts stand: some currencies done, one under way -/
def stF (l : List Db) (D : List ByteArray) (c : ByteArray) (T : ByteArray → ByteArray → Int) (k : DK) : Int := if k.1 = c then T k.2.1 k.2.2 else if k.1 ∈ D then rgK l k else mx0 (netI l k)
def gF (l : List Db) (D : List ByteArray) (k : DK) : Int := if k.1 ∈ D then rgK l k else mx0 (netI l k)
theorem Told.eqF {X : List Db} {F G : DK → Int} (h : Told X F) (e : ∀ k, F k = G k) : Told X G := ⟨h.1, fun x => by rw [h.2, e]⟩
theorem gF_nil (l : List Db) (k : DK) : mx0 (netI l k) = gF l [] k := by unfold gF; rw [if_neg (by simp)]
theorem gF_st {l : List Db} {D : List ByteArray} {c : ByteArray} (h : c ∉ D) (k : DK) : gF l D k = stF l D c (tabN l c) k := by
  unfold stF gF
  by_cases e : k.1 = c
  · rw [if_pos e, if_neg (by rw [e]; exact h), ← e]; rfl
  · rw [if_neg e]
theorem st_gF {l : List Db} {D : List ByteArray} {c : ByteArray} {T : ByteArray → ByteArray → Int} (h : T = (rgN l c).1) (k : DK) : stF l D c T k = gF l (D ++ [c]) k := by
  subst h
  unfold stF gF
  by_cases e : k.1 = c
  · rw [if_pos e, if_pos (by rw [e]; simp)]
    unfold rgK
    rw [e]
  · rw [if_neg e]
    by_cases e2 : k.1 ∈ D
    · rw [if_pos e2, if_pos (List.mem_append_left _ e2)]
    · rw [if_neg e2, if_neg (by simp [e, e2])]
theorem st_le {l : List Db} (hl : OkD l) {D : List ByteArray} {c : ByteArray} {T : ByteArray → ByteArray → Int} (h0 : ∀ i j, 0 ≤ T i j) (h : ∀ i j, T i j ≤ tabN l c i j) (k : DK) : 0 ≤ stF l D c T k ∧ stF l D c T k ≤ mx0 (netI l k) := by
  unfold stF
  by_cases e : k.1 = c
  · rw [if_pos e]
    refine ⟨h0 _ _, ?_⟩
    have := h k.2.1 k.2.2
    unfold tabN at this
    rw [← e] at this
    exact this
  · rw [if_neg e]
    split
    · exact ⟨(rg_tab hl k.1).1.nn _ _, (rg_tab hl k.1).2.1 _ _⟩
    · exact ⟨mx0_nn _, Int.le_refl _⟩
theorem st_owT {l X : List Db} (hl : OkD l) {D : List ByteArray} {c : ByteArray} {T : ByteArray → ByteArray → Int} (hX : Told X (stF l D c T)) (h0 : ∀ i j, 0 ≤ T i j) (h : ∀ i j, T i j ≤ tabN l c i j) : owT X c = T := by
  funext p q
  unfold owT
  rw [hX.ow (fun k => (st_le hl h0 h k).1)]
  unfold stF
  rw [if_pos rfl]
theorem st_ring {l X : List Db} (hl : OkD l) {D : List ByteArray} {c : ByteArray} {T : ByteArray → ByteArray → Int} (hX : Told X (stF l D c T)) (hT : Tab8 T (parN l)) (h : ∀ i j, T i j ≤ tabN l c i j) : ringR zB (owT X c) (parN X) lts = ringR zB T (parN l) lts := by
  have e := st_owT hl hX hT.nn h
  rw [e]
  refine ring_names (parN_spec X).1 (parN_spec l).1 ⟨hT.nn, hT.top, fun i j hp => ?_⟩ hT
  have hne : ow X (c, i, j) ≠ 0 := by
    have : owT X c i j = T i j := by rw [e]
    unfold owT at this
    omega
  exact (ow_pos_dom hne).2
theorem gF_end {l : List Db} (hl : OkD l) (k : DK) : gF l (curN l) k = rgK l k := by
  unfold gF
  by_cases e : k.1 ∈ curN l
  · rw [if_pos e]
  · rw [if_neg e]
    have h1 : ow l k = 0 := by
      rcases Decidable.em (ow l k = 0) with q | q
      · exact q
      · exact absurd (ow_pos_dom q).1 e
    have h2 := ow_nn hl.one (bk k)
    have h3 : mx0 (netI l k) = 0 := by unfold mx0; rw [if_neg (by unfold netI; omega)]
    have h4 := (rg_tab hl k.1).2.1 k.2.1 k.2.2
    have h5 := (rg_tab hl k.1).1.nn k.2.1 k.2.2
    unfold tabN at h4
    have h6 : mx0 (netI l (k.1, k.2.1, k.2.2)) = 0 := h3
    unfold rgK
    omega
theorem subR_snocB {T : ByteArray → ByteArray → Int} {E : List (ByteArray × ByteArray)} {p q : ByteArray} {n : Int} (h : (p, q) ∉ E) (l : List Db) (D : List ByteArray) (c : ByteArray) (k : DK) :
    (if k = (c, p, q) then stF l D c (subR T E n) k - n else stF l D c (subR T E n) k) = stF l D c (subR T (E ++ [(p, q)]) n) k := by
  obtain ⟨a, i, j⟩ := k
  unfold stF subR
  dsimp only
  by_cases e : a = c
  · subst e
    rw [if_pos rfl, if_pos rfl]
    by_cases e2 : (i, j) = (p, q)
    · obtain ⟨rfl, rfl⟩ := Prod.mk.inj e2
      rw [if_pos rfl, if_neg h, if_pos (by simp)]
    · rw [if_neg (fun q' => e2 (Prod.mk.inj q').2)]
      by_cases e3 : (i, j) ∈ E
      · rw [if_pos e3, if_pos (List.mem_append_left _ e3)]
      · rw [if_neg e3, if_neg (fun q' => by
          rcases List.mem_append.1 q' with r | r
          · exact e3 r
          · exact e2 (List.mem_singleton.1 r))]
  · rw [if_neg e, if_neg e, if_neg (fun q' => e (Prod.mk.inj q').1)]
theorem subR_bd {T : ByteArray → ByteArray → Int} {E R : List (ByteArray × ByteArray)} {n : Int} (h0 : ∀ i j, 0 ≤ T i j) (hn : 0 ≤ n) (hE : ∀ e ∈ R, n ≤ T e.1 e.2) (hs : ∀ e ∈ E, e ∈ R) (i j : ByteArray) : 0 ≤ subR T E n i j ∧ subR T E n i j ≤ T i j := by
  unfold subR
  split
  · rename_i h
    have := hE _ (hs _ h)
    dsimp only at this
    have := h0 i j
    omega
  · exact ⟨h0 i j, Int.le_refl _⟩
end Go.Proofs.YtbhgpeghddnidaaGreat
namespace Go.Proofs.YtbhgpeghddnidaaGreat
open Go.SL
section
variable {P : Program} {T : Tab P} {O : Org} {env : Env} {h : Hp} {o : Oper}
/-- a slice that holds something is not nil -/
theorem LStep_eqlNilS {tt e yt sz : Nat} {x : Operand} {es : List (List D)} (ho : o.op = .binOp .eql tt x (.const (.slice none 0 0)) yt) (hd : dstOk o.dst O.nt = true) (hT : T.desc tt = some (.slice e)) (hx : evalA env x = .d (.sl sz es)) (hne : es ≠ []) :
    LStep P O o env h [] [] (.d (.sc (.bool false))) [] := by
  refine .quiet hd (fun env' h' he _ a w G r => ⟨.bool false, ?_, .d _ _ (.sc _ rfl)⟩)
  have h1 := evalA_rep r.env x
  rw [he x (by simp [ho, Op.operands]), hx] at h1
  generalize hv : a.eval x = v at h1
  cases h1 with
  | d _ _ h1 =>
    cases h1 with
    | sl _ _ A n c b off vs hnn hcap hA hsz hcell hrep =>
      have hy : a.eval (.const (.slice none 0 0)) = .slice none 0 0 := rfl
      have hp : 0 < n := by
        rw [← hnn]
        exact List.length_pos_iff.2 hne
      obtain ⟨e1, _⟩ := hA hp
      subst e1
      simp [execOp, ho, hv, hy, eqGuard, binOp, run_eqlNil (P := P) (T.desc_ok hT) w _ n c]
theorem LStep_eqlNil0 {tt e yt : Nat} {x : Operand} (ho : o.op = .binOp .eql tt x (.const (.slice none 0 0)) yt) (hd : dstOk o.dst O.nt = true) (hT : T.desc tt = some (.slice e)) (hx : evalA env x = .d (.sc (.slice none 0 0))) :
    LStep P O o env h [] [] (.d (.sc (.bool true))) [] := by
  refine .quiet hd (fun env' h' he _ a w G r => ⟨.bool true, ?_, .d _ _ (.sc _ rfl)⟩)
  have h1 := evalA_rep r.env x
  rw [he x (by simp [ho, Op.operands]), hx] at h1
  have hv := h1.sc_inv
  have hy : a.eval (.const (.slice none 0 0)) = .slice none 0 0 := rfl
  simp [execOp, ho, hv, hy, eqGuard, binOp, run_eqlNil (P := P) (T.desc_ok hT) w none 0 0]
end
/-! ### the document's Rings: the walk -/
set_option maxRecDepth 10000 in
theorem rRingsNo_ac (l : List Db) (hl : l.length ≤ 4096) (hs : ∀ d ∈ l, smD d) (h : l.all mayD = false) : AC Tryz.prog 19 [.d (.sl 4 (l.map dbE))] [] [] (fun r _ => r = ringsX 1) := by
  have c := rPairsNo_ac l hl hs h
  refine AC_enter Tryz.func19 rfl Tryz.ntmps19 (rv := [.tmp 2, .tmp 3, .tmp 4]) rfl rfl (by simp) (fun w X G => ?_)
  repeat' (first | ((with_reducible refine gRc ?_); refine AW_nilD 4 2 rfl ?_) | ((with_reducible refine gA ?_); (first | refine AW_seq ?_ | refine AW_region ?_ | (refine AW_cond rfl (fun hc => ?_) (fun hc => ?_) <;> try (exfalso; simp only [cmpL] at hc; omega)) | refine AW_ret ?_)) | ((with_reducible refine gS ?_); refine Es_s (T := Tryz.tab) rfl rfl rfl rfl ?_) | (((with_reducible refine gS ?_); apply Es_q); rfl; rfl; refine LStep_call (c) rfl rfl rfl rfl) | (with_reducible refine Es_nil ?_) | (with_reducible refine then_n ?_) | (with_reducible refine then_r ?_))
  all_goals first
    | rfl
    | trace_state
theorem rPairs_bad (l : List Db) (hl : l.length ≤ 100) (hs : ∀ d ∈ l, smD d) (h : l.all mayD = true) (hb : badN l) : AC Tryz.prog 14 [.d (.sl 4 (l.map dbE))] [] [] (fun r _ => r = .tup [.d (.sl 4 []), .d (.sc (.int .i64 3))]) :=
  (rPairs_ac l hl hs h).mono (fun r _ hr => by
    rcases hr with ⟨_, e⟩ | ⟨e, _⟩
    · exact e
    · exact absurd hb e)
theorem rPairs_ok (l : List Db) (hl : l.length ≤ 100) (hs : ∀ d ∈ l, smD d) (h : l.all mayD = true) (hb : ¬ badN l) : AC Tryz.prog 14 [.d (.sl 4 (l.map dbE))] [] [] (fun r _ => r = .tup [.d (.sl 4 ((pairN l).map dbE)), .d (.sc (.int .i64 0))]) :=
  (rPairs_ac l hl hs h).mono (fun r _ hr => by
    rcases hr with ⟨e, _⟩ | ⟨_, e⟩
    · exact absurd e hb
    · exact e)
set_option maxRecDepth 10000 in
theorem rRingsBad_ac (l : List Db) (hl : l.length ≤ 100) (hs : ∀ d ∈ l, smD d) (h : l.all mayD = true) (hb : badN l) : AC Tryz.prog 19 [.d (.sl 4 (l.map dbE))] [] [] (fun r _ => r = ringsX 3) := by
  have c := rPairs_bad l hl hs h hb
  refine AC_enter Tryz.func19 rfl Tryz.ntmps19 (rv := [.tmp 2, .tmp 3, .tmp 4]) rfl rfl (by simp) (fun w X G => ?_)
  repeat' (first | ((with_reducible refine gRc ?_); refine AW_nilD 4 2 rfl ?_) | ((with_reducible refine gA ?_); (first | refine AW_seq ?_ | refine AW_region ?_ | (refine AW_cond rfl (fun hc => ?_) (fun hc => ?_) <;> try (exfalso; simp only [cmpL] at hc; omega)) | refine AW_ret ?_)) | ((with_reducible refine gS ?_); refine Es_s (T := Tryz.tab) rfl rfl rfl rfl ?_) | (((with_reducible refine gS ?_); apply Es_q); rfl; rfl; refine LStep_call (c) rfl rfl rfl rfl) | (with_reducible refine Es_nil ?_) | (with_reducible refine then_n ?_) | (with_reducible refine then_r ?_))
  all_goals first
    | rfl
    | trace_state
set_option maxRecDepth 10000 in
theorem rRingsMany_ac (l : List Db) (hl : l.length ≤ 100) (hs : ∀ d ∈ l, smD d) (h : l.all mayD = true) (hb : ¬ badN l) (h8 : 8 < (parN l).length) : AC Tryz.prog 19 [.d (.sl 4 (l.map dbE))] [] [] (fun r _ => r = ringsX 7) := by
  have c := rPairs_ok l hl hs h hb
  have c2 := rParties_ac l (by omega) hs
  rw [mF_all h] at c2
  have g : ltb 8 ((parN l).length : Nat) = true := by rw [ltb_t]; omega
  refine AC_enter Tryz.func19 rfl Tryz.ntmps19 (rv := [.tmp 2, .tmp 3, .tmp 4]) rfl rfl (by simp) (fun w X G => ?_)
  repeat' (first | ((with_reducible refine gRc ?_); refine AW_nilD 4 2 rfl ?_) | ((with_reducible refine gA ?_); (first | refine AW_seq ?_ | refine AW_region ?_ | (refine AW_condY rfl ?_ ?_; assumption) | (refine AW_cond rfl (fun hc => ?_) (fun hc => ?_) <;> try (exfalso; simp only [cmpL] at hc; omega)) | refine AW_ret ?_ | refine AW_skip ?_)) | ((with_reducible refine gS ?_); refine Es_s (T := Tryz.tab) rfl rfl rfl rfl ?_) | (((with_reducible refine gS ?_); apply Es_q); rfl; rfl; (first | refine LStep_call (c) rfl rfl rfl rfl | refine LStep_call (c2) rfl rfl rfl rfl)) | (((with_reducible refine gS ?_); apply Es_q); rfl; rfl; refine LStep_lenM (T := Tryz.tab) rfl rfl rfl rfl) | (with_reducible refine Es_nil ?_) | (with_reducible refine then_n ?_) | (with_reducible refine then_r ?_))
  all_goals first
    | rfl
    | trace_state
set_option maxRecDepth 10000 in
set_option maxHeartbeats 32000000 in
theorem rRingsOk_ac (l : List Db) (hl : l.length ≤ 100) (hs : ∀ d ∈ l, smD d) (h : l.all mayD = true) (hb : ¬ badN l) (h8 : (parN l).length ≤ 8) : AC Tryz.prog 19 [.d (.sl 4 (l.map dbE))] [] [] (fun r _ => r = ringsV l) := by
  have c1 := rPairs_ok l hl hs h hb
  have c2 := rParties_ac l (by omega) hs
  have c3 := rCurrencies_ac l (by omega) hs
  rw [mF_all h] at c2 c3
  have hO := okD h hb
  have g : ltb 8 ((parN l).length : Nat) = false := by rw [ltb_f]; omega
  have hCl := curN_len l
  have hCn : (curN l).Nodup := ssn_nodup (curN_spec l).1
  have hfin : ∀ X G, Told X (gF l (curN l)) → G = sumG (curN l) (fun c => (rgN l c).2) → AV.tup [.d (.sl 4 (X.map dbE)), .d (.sc (.int .i64 G)), .d (.sc (.int .i64 0))] = ringsV l := fun X G hX hG => by
    rw [hX.one (ringsN_told hO) (gF_end hO), hG]; rfl
  have hst : Told (pairN l) (gF l []) := (pairN_told hO.one).eqF (gF_nil l)
  refine AC_enter Tryz.func19 rfl Tryz.ntmps19 (rv := [.tmp 2, .tmp 3, .tmp 4]) rfl rfl (by simp) (fun w X G => ?_)
  repeat' (first | ((with_reducible refine gA ?_); (first | refine AW_seq ?_ | refine AW_region ?_ | (refine AW_condN rfl ?_ ?_; assumption) | (refine AW_cond rfl (fun hc => ?_) (fun hc => ?_) <;> try (exfalso; simp only [cmpL] at hc; omega)) | refine AW_block ?_ | refine AW_skip ?_)) | ((with_reducible refine gS ?_); refine Es_s (T := Tryz.tab) rfl rfl rfl rfl ?_) | (((with_reducible refine gS ?_); apply Es_q); rfl; rfl; (first | refine LStep_call (c1) rfl rfl rfl rfl | refine LStep_call (c2) rfl rfl rfl rfl | refine LStep_call (c3) rfl rfl rfl rfl)) | (((with_reducible refine gS ?_); apply Es_q); rfl; rfl; refine LStep_lenM (T := Tryz.tab) rfl rfl rfl rfl) | (with_reducible refine Es_nil ?_) | (with_reducible refine then_n ?_))
  refine AW_weaken (E := [(5, .d (.sl 4 ((pairN l).map dbE))), (7, .d (.sc (.int .i64 0))), (8, .d (.sl 1 ((curN l).map sN))), (9, .d (.sc (.int .i64 0)))]) (H := []) ?_ (by (repeat' (first | exact trivial | exact rfl | (refine ⟨Or.inl rfl, ?_⟩) | (refine ⟨Or.inr rfl, ?_⟩) | (refine ⟨Or.inr trivial, ?_⟩) | (refine ⟨rfl, ?_⟩) | (refine ⟨?_, ?_⟩)))) (by (repeat' (first | exact trivial | exact rfl | (refine ⟨Or.inl rfl, ?_⟩) | (refine ⟨Or.inr rfl, ?_⟩) | (refine ⟨Or.inr trivial, ?_⟩) | (refine ⟨rfl, ?_⟩) | (refine ⟨?_, ?_⟩))))
  refine AW_forE (S := Nat × List Db × Int) (fun z => z.1 ≤ (curN l).length ∧ Told z.2.1 (gF l ((curN l).take z.1)) ∧ z.2.2 = sumG ((curN l).take z.1) (fun c => (rgN l c).2)) (fun z => [(5, .d (.sl 4 (z.2.1.map dbE))), (7, .d (.sc (.int .i64 z.2.2))), (9, .d (.sc (.int .i64 (z.1 : Nat))))]) (fun _ => []) (fun z => (curN l).length - z.1) (0, pairN l, 0) ⟨by omega, hst, rfl⟩ (by (repeat' (first | exact trivial | exact rfl | (refine ⟨Or.inl rfl, ?_⟩) | (refine ⟨Or.inr rfl, ?_⟩) | (refine ⟨Or.inr trivial, ?_⟩) | (refine ⟨rfl, ?_⟩) | (refine ⟨?_, ?_⟩)))) (by (repeat' (first | exact trivial | exact rfl | (refine ⟨Or.inl rfl, ?_⟩) | (refine ⟨Or.inr rfl, ?_⟩) | (refine ⟨Or.inr trivial, ?_⟩) | (refine ⟨rfl, ?_⟩) | (refine ⟨?_, ?_⟩)))) ?_
  intro ⟨k, X0, G0⟩ ⟨hk, hX0, hG0⟩
  dsimp only at hk hX0 hG0 ⊢
  by_cases hlt : k < (curN l).length
  · obtain ⟨c, hc, hd⟩ := drop_at hlt
    have hcm : c ∈ curN l := List.mem_of_getElem? hc
    have g1 : ltb ((k : Nat) : Int) (((curN l).length : Nat) : Int) = true := by rw [ltb_t]; omega
    have hcD : c ∉ (curN l).take k := nodup_take hCn hc
    have hX1 := hX0.eqF (gF_st hcD)
    have htk : (curN l).take (k + 1) = (curN l).take k ++ [c] := take_at hc
    have hG0b := gone_bd hO h8 ((curN l).take k) (fun x hx => List.mem_of_mem_take hx)
    have hGt : ((curN l).take k).length ≤ 100 := by rw [List.length_take]; omega
    rw [← hG0] at hG0b
    have hgb := rg_bd hO h8 hcm
    have hsum : sumG ((curN l).take (k + 1)) (fun c => (rgN l c).2) = G0 + (rgN l c).2 := by rw [htk, sumG_snoc, ← hG0]
    have hT0 := tabN_tab hO c
    generalize hD : (curN l).take k = Dn at *
    have hG0c : 0 ≤ G0 ∧ G0 ≤ 56294995342131200 := by
      have : (562949953421312 : Int) * (Dn.length : Int) ≤ 562949953421312 * 100 := Int.mul_le_mul_of_nonneg_left (by omega) (by omega)
      omega
    repeat' (first | ((with_reducible refine gA ?_); (first | refine AW_seq ?_ | refine AW_region ?_ | (refine AW_condY rfl ?_ ?_; assumption) | refine AW_block ?_ | refine AW_skip ?_)) | ((with_reducible refine gS ?_); refine Es_s (T := Tryz.tab) rfl rfl rfl rfl ?_) | (((with_reducible refine gS ?_); apply Es_q); rfl; rfl; refine LStep_lenM (T := Tryz.tab) rfl rfl rfl rfl) | (with_reducible refine Es_nil ?_) | (with_reducible refine then_n ?_))
    refine AW_forE (S := List Db × (ByteArray → ByteArray → Int) × Int) (fun z => Told z.1 (stF l Dn c z.2.1) ∧ Tab8 z.2.1 (parN l) ∧ (∀ i j, z.2.1 i j ≤ tabN l c i j) ∧ (losR zB (parN l) lts z.2.1).1 = (rgN l c).1 ∧ z.2.2 + (losR zB (parN l) lts z.2.1).2 = G0 + (rgN l c).2 ∧ 0 ≤ z.2.2) (fun z => [(5, .d (.sl 4 (z.1.map dbE))), (7, .d (.sc (.int .i64 z.2.2)))]) (fun _ => []) (fun z => cntR z.2.1 (parN l)) (X0, tabN l c, G0) ⟨hX1, hT0, fun _ _ => Int.le_refl _, rfl, rfl, hG0c.1⟩ (by (repeat' (first | exact trivial | exact rfl | (refine ⟨Or.inl rfl, ?_⟩) | (refine ⟨Or.inr rfl, ?_⟩) | (refine ⟨Or.inr trivial, ?_⟩) | (refine ⟨rfl, ?_⟩) | (refine ⟨?_, ?_⟩)))) (by (repeat' (first | exact trivial | exact rfl | (refine ⟨Or.inl rfl, ?_⟩) | (refine ⟨Or.inr rfl, ?_⟩) | (refine ⟨Or.inr trivial, ?_⟩) | (refine ⟨rfl, ?_⟩) | (refine ⟨?_, ?_⟩)))) ?_
    intro ⟨Y, T, G⟩ ⟨hY, hT, hle, hl1, hl2, hG⟩
    dsimp only at hY hT hle hl1 hl2 hG ⊢
    have hF := fun k => (st_le (D := Dn) hO hT.nn hle k).2
    have hYl := fit_len hO hY hF
    have hYm := fit_may hO h hY hF
    have hYs := fit_sm hO hs hY hF
    have hYx := fit_x hO hY hF
    have cf := rFirst_ac Y c (by omega) hYm hYs
    rw [st_ring hO hY hT hle] at cf
    have cO := fun p q => rOwes_ac Y p q c (by omega) (may_bd hYm)
    have hoT := st_owT hO hY hT.nn hle
    have hT' : ∀ p q, ow Y (c, p, q) = T p q := fun p q => by rw [← hoT]; rfl
    simp only [hT'] at cO
    have hnn := los_nn hT
    cases hr : ringR zB T (parN l) lts with
    | none =>
      have e1 := losR_none zB hr
      rw [e1] at hl1 hl2
      dsimp only at hl1 hl2
      have hY2 : Told Y (gF l ((curN l).take (k + 1))) := by rw [htk]; exact hY.eqF (st_gF hl1)
      have hG2 : G = sumG ((curN l).take (k + 1)) (fun c => (rgN l c).2) := by rw [hsum]; omega
      rw [hr, show ringE none = D.sc (.slice none 0 0) from rfl] at cf
      repeat' (first | ((with_reducible refine gA ?_); (first | refine AW_seq ?_ | refine AW_region ?_ | refine AW_condT rfl ?_ | refine AW_block ?_ | refine AW_exit ?_)) | ((with_reducible refine gS ?_); refine Es_s (T := Tryz.tab) rfl rfl rfl rfl ?_) | (((with_reducible refine gS ?_); apply Es_q); rfl; rfl; (first | refine LStep_call (cf) rfl rfl rfl rfl | refine LStep_eqlNil0 (T := Tryz.tab) rfl rfl rfl rfl)) | (((with_reducible refine gS ?_); apply Es_q); rfl; rfl; (first | (refine LStep_add rfl rfl rfl rfl ?_; (refine IntWalk.i64_in _ ?_; first | omega | (simp only [cmps] at *; omega))) | (refine LStep_indexM (T := Tryz.tab) (c := ?_) rfl rfl rfl rfl rfl rfl ?_; rotate_left; assumption))) | (with_reducible refine Es_nil ?_) | (with_reducible refine then_n ?_) | (with_reducible refine then_e ?_) | (with_reducible refine block_n ?_) | ((with_reducible refine block_e ?_ ?_); rfl) | ((with_reducible refine block_x ?_ ?_); rfl))
      all_goals first
        | (refine ⟨(k + 1, Y, G), ?_, by omega, by (repeat' (first | exact trivial | exact rfl | (refine ⟨Or.inl rfl, ?_⟩) | (refine ⟨Or.inr rfl, ?_⟩) | (refine ⟨Or.inr trivial, ?_⟩) | (refine ⟨rfl, ?_⟩) | (refine ⟨?_, ?_⟩))), by (repeat' (first | exact trivial | exact rfl | (refine ⟨Or.inl rfl, ?_⟩) | (refine ⟨Or.inr rfl, ?_⟩) | (refine ⟨Or.inr trivial, ?_⟩) | (refine ⟨rfl, ?_⟩) | (refine ⟨?_, ?_⟩))), by (repeat' (first | exact trivial | exact rfl | (refine ⟨Or.inl rfl, ?_⟩) | (refine ⟨Or.inr rfl, ?_⟩) | (refine ⟨Or.inr trivial, ?_⟩) | (refine ⟨rfl, ?_⟩) | (refine ⟨?_, ?_⟩))), by (repeat' (first | exact trivial | exact rfl | (refine ⟨Or.inl rfl, ?_⟩) | (refine ⟨Or.inr rfl, ?_⟩) | (refine ⟨Or.inr trivial, ?_⟩) | (refine ⟨rfl, ?_⟩) | (refine ⟨?_, ?_⟩)))⟩; exact ⟨by omega, hY2, hG2⟩)
        | trace_state
    | some r =>
      have hi := ringR_is zB hr
      have hs1 := losR_some zB hT hr
      have hne := hi.ne
      have hpos := List.length_pos_iff.2 hne
      have hrlen : r.length ≤ 8 := by
        have := nodup_le hi.nd hi.sub
        omega
      have hcs := cntR_sub hT hi
      have hus := hT.sub hi
      obtain ⟨n1, n2, _⟩ := hi.least hT
      have hnle : leastR zB T r ≤ 1099511627776 := (minE_le T (rng zB r) 1099511627776).1
      have hnn2 := los_nn hus
      have hrn : r.map sN ≠ [] := by simpa using hne
      have hat := fun i (hi' : i < r.length) => rng_getB hne hi'
      have hnd := rng_nodup zB hi.nd hne
      have hrl := rng_len zB r hne
      have hm0 : leastR zB T r = minE T 1099511627776 (rng zB r) := rfl
      have hbd : ∀ i, ∀ a b, 0 ≤ subR T ((rng zB r).take i) (leastR zB T r) a b ∧ subR T ((rng zB r).take i) (leastR zB T r) a b ≤ T a b := fun i => subR_bd hT.nn (by omega) n2 (fun e he => List.mem_of_mem_take he)
      rw [hs1] at hl1 hl2
      dsimp only at hl1 hl2
      rw [hr, show ringE (some r) = D.sl 1 (r.map sN) from rfl] at cf
      repeat' (first | ((with_reducible refine gA ?_); (first | refine AW_seq ?_ | refine AW_region ?_ | refine AW_condF rfl ?_ | refine AW_block ?_ | refine AW_skip ?_)) | ((with_reducible refine gS ?_); refine Es_s (T := Tryz.tab) rfl rfl rfl rfl ?_) | (((with_reducible refine gS ?_); apply Es_q); rfl; rfl; (first | refine LStep_call (cf) rfl rfl rfl rfl | refine LStep_eqlNilS (T := Tryz.tab) rfl rfl rfl rfl hrn)) | (((with_reducible refine gS ?_); apply Es_q); rfl; rfl; (refine LStep_indexM (T := Tryz.tab) (c := ?_) rfl rfl rfl rfl rfl rfl ?_; rotate_left; assumption)) | (with_reducible refine Es_nil ?_) | (with_reducible refine then_n ?_))
      refine AW_forE (S := Nat × Int) (fun z => z.1 ≤ r.length ∧ z.2 = minE T 1099511627776 ((rng zB r).take z.1)) (fun z => [(12, .d (.sc (.int .i64 (z.1 : Nat)))), (11, .d (.sc (.int .i64 z.2)))]) (fun _ => []) (fun z => r.length - z.1) (0, 1099511627776) ⟨by dsimp only; omega, rfl⟩ (by (repeat' (first | exact trivial | exact rfl | (refine ⟨Or.inl rfl, ?_⟩) | (refine ⟨Or.inr rfl, ?_⟩) | (refine ⟨Or.inr trivial, ?_⟩) | (refine ⟨rfl, ?_⟩) | (refine ⟨?_, ?_⟩)))) (by (repeat' (first | exact trivial | exact rfl | (refine ⟨Or.inl rfl, ?_⟩) | (refine ⟨Or.inr rfl, ?_⟩) | (refine ⟨Or.inr trivial, ?_⟩) | (refine ⟨rfl, ?_⟩) | (refine ⟨?_, ?_⟩)))) ?_
      intro ⟨i, m⟩ ⟨hi0, him⟩
      dsimp only at hi0 him ⊢
      have hlen0 : ((r.length : Nat) : Int) ≠ 0 := by omega
      by_cases hlti : i < r.length
      · obtain ⟨p, q, hp, hq, he⟩ := hat i hlti
        have g2 : ltb ((i : Nat) : Int) ((r.length : Nat) : Int) = true := by rw [ltb_t]; omega
        have cpq := cO p q
        have hrem : (((i : Nat) : Int) + 1).tmod ((r.length : Nat) : Int) = (((i + 1) % r.length : Nat) : Int) := rfl
        have hnx : minE T 1099511627776 ((rng zB r).take (i + 1)) = minI m (T p q) := by rw [take_at he, him]; unfold minE; rw [List.foldl_append]; rfl
        repeat' (first | ((with_reducible refine gA ?_); (first | refine AW_seq ?_ | refine AW_region ?_ | refine AW_regionD Tryz.mixed ?_ | (refine AW_condY rfl ?_ ?_; assumption) | refine AW_block ?_ | refine AW_skip ?_)) | (first | ((with_reducible refine gS ?_); refine Es_s (T := Tryz.tab) rfl rfl rfl rfl ?_) | ((with_reducible refine gD ?_); refine Ed_s (T := Tryz.tab) rfl rfl rfl rfl ?_)) | ((first | ((with_reducible refine gS ?_); apply Es_q) | ((with_reducible refine gD ?_); apply Ed_q)); rfl; rfl; (first | refine LStep_call (cpq) rfl rfl rfl rfl | refine LStep_remN rfl rfl rfl hlen0 hrem rfl | refine LStep_min rfl rfl rfl rfl rfl)) | ((first | ((with_reducible refine gS ?_); apply Es_q) | ((with_reducible refine gD ?_); apply Ed_q)); rfl; rfl; (first | refine LStep_lenM (T := Tryz.tab) rfl rfl rfl rfl | (refine LStep_add rfl rfl rfl rfl ?_; (refine IntWalk.i64_in _ ?_; first | omega | (simp only [cmps] at *; omega))) | (refine LStep_indexM (T := Tryz.tab) (c := ?_) rfl rfl rfl rfl rfl rfl ?_; rotate_left; assumption))) | (with_reducible refine Es_nil ?_) | ((with_reducible refine Ed_nil ?_ ?_); kernel_rfl) | (with_reducible refine then_n ?_) | (with_reducible refine block_n ?_))
        all_goals first
          | (refine ⟨(i + 1, minI m (T p q)), ?_, by omega, by (repeat' (first | exact trivial | exact rfl | (refine ⟨Or.inl rfl, ?_⟩) | (refine ⟨Or.inr rfl, ?_⟩) | (refine ⟨Or.inr trivial, ?_⟩) | (refine ⟨rfl, ?_⟩) | (refine ⟨?_, ?_⟩))), by (repeat' (first | exact trivial | exact rfl | (refine ⟨Or.inl rfl, ?_⟩) | (refine ⟨Or.inr rfl, ?_⟩) | (refine ⟨Or.inr trivial, ?_⟩) | (refine ⟨rfl, ?_⟩) | (refine ⟨?_, ?_⟩))), by (repeat' (first | exact trivial | exact rfl | (refine ⟨Or.inl rfl, ?_⟩) | (refine ⟨Or.inr rfl, ?_⟩) | (refine ⟨Or.inr trivial, ?_⟩) | (refine ⟨rfl, ?_⟩) | (refine ⟨?_, ?_⟩))), by (repeat' (first | exact trivial | exact rfl | (refine ⟨Or.inl rfl, ?_⟩) | (refine ⟨Or.inr rfl, ?_⟩) | (refine ⟨Or.inr trivial, ?_⟩) | (refine ⟨rfl, ?_⟩) | (refine ⟨?_, ?_⟩)))⟩; exact ⟨by omega, hnx.symm⟩)
          | trace_state
      · have hil : i = r.length := by omega
        subst hil
        have g2 : ltb ((r.length : Nat) : Int) ((r.length : Nat) : Int) = false := by rw [ltb_f]; omega
        rw [← hrl, List.take_length, ← hm0] at him
        subst him
        repeat' (first | ((with_reducible refine gA ?_); (first | refine AW_seq ?_ | refine AW_region ?_ | (refine AW_condN rfl ?_ ?_; assumption) | refine AW_block ?_ | refine AW_exit ?_)) | ((with_reducible refine gS ?_); refine Es_s (T := Tryz.tab) rfl rfl rfl rfl ?_) | (((with_reducible refine gS ?_); apply Es_q); rfl; rfl; refine LStep_lenM (T := Tryz.tab) rfl rfl rfl rfl) | (with_reducible refine Es_nil ?_) | (with_reducible refine then_n ?_) | (with_reducible refine then_e ?_) | ((with_reducible refine block_e ?_ ?_); rfl))
        refine AW_forE (S := Nat × List Db × Int) (fun z => z.1 ≤ r.length ∧ Told z.2.1 (stF l Dn c (subR T ((rng zB r).take z.1) (leastR zB T r))) ∧ z.2.2 = G + leastR zB T r * (z.1 : Int)) (fun z => [(13, .d (.sc (.int .i64 (z.1 : Nat)))), (5, .d (.sl 4 (z.2.1.map dbE))), (7, .d (.sc (.int .i64 z.2.2)))]) (fun _ => []) (fun z => r.length - z.1) (0, Y, G) ⟨by dsimp only; omega, by dsimp only; rw [List.take_zero]; exact hY.eqF (fun k => by unfold stF subR; simp), by dsimp only; omega⟩ (by (repeat' (first | exact trivial | exact rfl | (refine ⟨Or.inl rfl, ?_⟩) | (refine ⟨Or.inr rfl, ?_⟩) | (refine ⟨Or.inr trivial, ?_⟩) | (refine ⟨rfl, ?_⟩) | (refine ⟨?_, ?_⟩)))) (by (repeat' (first | exact trivial | exact rfl | (refine ⟨Or.inl rfl, ?_⟩) | (refine ⟨Or.inr rfl, ?_⟩) | (refine ⟨Or.inr trivial, ?_⟩) | (refine ⟨rfl, ?_⟩) | (refine ⟨?_, ?_⟩)))) ?_
        intro ⟨j, Z, L⟩ ⟨hj0, hZ, hL⟩
        dsimp only at hj0 hZ hL ⊢
        by_cases hltj : j < r.length
        · obtain ⟨p, q, hp, hq, he⟩ := hat j hltj
          have g3 : ltb ((j : Nat) : Int) ((r.length : Nat) : Int) = true := by rw [ltb_t]; omega
          have hrem : (((j : Nat) : Int) + 1).tmod ((r.length : Nat) : Int) = (((j + 1) % r.length : Nat) : Int) := rfl
          have hFz := fun k => (st_le (D := Dn) hO (fun a b => (hbd j a b).1) (fun a b => Int.le_trans (hbd j a b).2 (hle a b)) k).2
          have hZl := fit_len hO hZ hFz
          have hZm := fit_may hO h hZ hFz
          have cl := rLess_ac Z c p q (leastR zB T r) (by omega) (may_bd hZm) ⟨by omega, hnle⟩
          have hZ2 := (less_told hZ (k := (c, p, q)) (n := leastR zB T r) (by omega)).eqF (subR_snocB (nodup_take hnd he) l Dn c)
          rw [← take_at he] at hZ2
          have hmj : leastR zB T r * (j : Int) ≤ 1099511627776 * 8 := Int.mul_le_mul hnle (by omega) (by omega) (by omega)
          have hmj0 : 0 ≤ leastR zB T r * (j : Int) := Int.mul_nonneg (by omega) (by omega)
          have hLn : L + leastR zB T r = G + leastR zB T r * ((j + 1 : Nat) : Int) := by rw [hL, Int.natCast_add, Int.mul_add]; omega
          have hGb : G ≤ 57000000000000000 := by
            have := Int.mul_nonneg (a := leastR zB T r) (b := (r.length : Int)) (by omega) (by omega)
            omega
          have hLb : 0 ≤ L ∧ L ≤ 1152921504606846976 := by omega
          generalize leastR zB T r = ml at *
          repeat' (first | ((with_reducible refine gA ?_); (first | refine AW_seq ?_ | refine AW_region ?_ | refine AW_regionD Tryz.mixed ?_ | (refine AW_condY rfl ?_ ?_; assumption) | refine AW_block ?_ | refine AW_skip ?_)) | (first | ((with_reducible refine gS ?_); refine Es_s (T := Tryz.tab) rfl rfl rfl rfl ?_) | ((with_reducible refine gD ?_); refine Ed_s (T := Tryz.tab) rfl rfl rfl rfl ?_)) | ((first | ((with_reducible refine gS ?_); apply Es_q) | ((with_reducible refine gD ?_); apply Ed_q)); rfl; rfl; (first | refine LStep_call (cl) rfl rfl rfl rfl | refine LStep_remN rfl rfl rfl hlen0 hrem rfl)) | ((first | ((with_reducible refine gS ?_); apply Es_q) | ((with_reducible refine gD ?_); apply Ed_q)); rfl; rfl; (first | refine LStep_lenM (T := Tryz.tab) rfl rfl rfl rfl | (refine LStep_add rfl rfl rfl rfl ?_; (refine IntWalk.i64_in _ ?_; first | omega | (simp only [cmps] at *; omega))) | (refine LStep_indexM (T := Tryz.tab) (c := ?_) rfl rfl rfl rfl rfl rfl ?_; rotate_left; assumption))) | (with_reducible refine Es_nil ?_) | ((with_reducible refine Ed_nil ?_ ?_); kernel_rfl) | (with_reducible refine then_n ?_) | (with_reducible refine block_n ?_))
          all_goals first
            | (refine ⟨(j + 1, lessL (c, p, q) ml Z, L + ml), ?_, by omega, by (repeat' (first | exact trivial | exact rfl | (refine ⟨Or.inl rfl, ?_⟩) | (refine ⟨Or.inr rfl, ?_⟩) | (refine ⟨Or.inr trivial, ?_⟩) | (refine ⟨rfl, ?_⟩) | (refine ⟨?_, ?_⟩))), by (repeat' (first | exact trivial | exact rfl | (refine ⟨Or.inl rfl, ?_⟩) | (refine ⟨Or.inr rfl, ?_⟩) | (refine ⟨Or.inr trivial, ?_⟩) | (refine ⟨rfl, ?_⟩) | (refine ⟨?_, ?_⟩))), by (repeat' (first | exact trivial | exact rfl | (refine ⟨Or.inl rfl, ?_⟩) | (refine ⟨Or.inr rfl, ?_⟩) | (refine ⟨Or.inr trivial, ?_⟩) | (refine ⟨rfl, ?_⟩) | (refine ⟨?_, ?_⟩))), by (repeat' (first | exact trivial | exact rfl | (refine ⟨Or.inl rfl, ?_⟩) | (refine ⟨Or.inr rfl, ?_⟩) | (refine ⟨Or.inr trivial, ?_⟩) | (refine ⟨rfl, ?_⟩) | (refine ⟨?_, ?_⟩)))⟩; exact ⟨by omega, hZ2, hLn⟩)
            | trace_state
        · have hjl : j = r.length := by omega
          subst hjl
          have g3 : ltb ((r.length : Nat) : Int) ((r.length : Nat) : Int) = false := by rw [ltb_f]; omega
          rw [← hrl, List.take_length] at hZ
          have hle2 : ∀ a b, subR T (rng zB r) (leastR zB T r) a b ≤ tabN l c a b := fun a b => by
            have := (hbd (rng zB r).length a b).2
            rw [List.take_length] at this
            exact Int.le_trans this (hle a b)
          have hL0 : 0 ≤ L := by
            have := Int.mul_nonneg (a := leastR zB T r) (b := (r.length : Int)) (by omega) (by omega)
            omega
          have hL2 : L + (losR zB (parN l) lts (subR T (rng zB r) (leastR zB T r))).2 = G0 + (rgN l c).2 := by omega
          repeat' (first | ((with_reducible refine gA ?_); (first | refine AW_seq ?_ | refine AW_region ?_ | (refine AW_condN rfl ?_ ?_; assumption) | refine AW_exit ?_)) | ((with_reducible refine gS ?_); refine Es_s (T := Tryz.tab) rfl rfl rfl rfl ?_) | (((with_reducible refine gS ?_); apply Es_q); rfl; rfl; refine LStep_lenM (T := Tryz.tab) rfl rfl rfl rfl) | (with_reducible refine Es_nil ?_) | (with_reducible refine then_n ?_) | (with_reducible refine then_e ?_) | (with_reducible refine block_n ?_) | ((with_reducible refine block_e ?_ ?_); rfl))
          all_goals first
            | (refine ⟨(Z, subR T (rng zB r) (leastR zB T r), L), ⟨hZ, hus, hle2, hl1, hL2, hL0⟩, hcs, by (repeat' (first | exact trivial | exact rfl | (refine ⟨Or.inl rfl, ?_⟩) | (refine ⟨Or.inr rfl, ?_⟩) | (refine ⟨Or.inr trivial, ?_⟩) | (refine ⟨rfl, ?_⟩) | (refine ⟨?_, ?_⟩))), by (repeat' (first | exact trivial | exact rfl | (refine ⟨Or.inl rfl, ?_⟩) | (refine ⟨Or.inr rfl, ?_⟩) | (refine ⟨Or.inr trivial, ?_⟩) | (refine ⟨rfl, ?_⟩) | (refine ⟨?_, ?_⟩))), by (repeat' (first | exact trivial | exact rfl | (refine ⟨Or.inl rfl, ?_⟩) | (refine ⟨Or.inr rfl, ?_⟩) | (refine ⟨Or.inr trivial, ?_⟩) | (refine ⟨rfl, ?_⟩) | (refine ⟨?_, ?_⟩))), by (repeat' (first | exact trivial | exact rfl | (refine ⟨Or.inl rfl, ?_⟩) | (refine ⟨Or.inr rfl, ?_⟩) | (refine ⟨Or.inr trivial, ?_⟩) | (refine ⟨rfl, ?_⟩) | (refine ⟨?_, ?_⟩)))⟩; done)
            | trace_state
  · have hkl : k = (curN l).length := by omega
    subst hkl
    have g1 : ltb (((curN l).length : Nat) : Int) (((curN l).length : Nat) : Int) = false := by rw [ltb_f]; omega
    rw [List.take_length] at hX0 hG0
    have hf := hfin X0 G0 hX0 hG0
    repeat' (first | ((with_reducible refine gA ?_); (first | refine AW_seq ?_ | refine AW_region ?_ | (refine AW_condN rfl ?_ ?_; assumption) | refine AW_ret ?_ | refine AW_exit ?_)) | ((with_reducible refine gS ?_); refine Es_s (T := Tryz.tab) rfl rfl rfl rfl ?_) | (((with_reducible refine gS ?_); apply Es_q); rfl; rfl; refine LStep_lenM (T := Tryz.tab) rfl rfl rfl rfl) | (with_reducible refine Es_nil ?_) | (with_reducible refine then_n ?_) | (with_reducible refine then_e ?_) | ((with_reducible refine block_e ?_ ?_); rfl))
    all_goals first
      | exact hf
      | trace_state
end Go.Proofs.YtbhgpeghddnidaaGreat
namespace Go.Proofs.YtbhgpeghddnidaaGreat
open Go.SL
/-! ### awake -/
def exD : List Db := [((⟨#[69, 85, 82]⟩, ⟨#[97]⟩, ⟨#[98]⟩), 5), ((⟨#[69, 85, 82]⟩, ⟨#[98]⟩, ⟨#[99]⟩), 5), ((⟨#[69, 85, 82]⟩, ⟨#[99]⟩, ⟨#[97]⟩), 3)]
def exR : List Db := [((⟨#[69, 85, 82]⟩, ⟨#[97]⟩, ⟨#[98]⟩), 2), ((⟨#[69, 85, 82]⟩, ⟨#[98]⟩, ⟨#[99]⟩), 2)]
def exN : List Db := [((⟨#[69, 85, 82]⟩, ⟨#[97]⟩, ⟨#[99]⟩), 2)]
theorem ex_may : exD.all mayD = true := by decide +kernel
theorem ex_par : (parN exD).length ≤ 8 := by decide +kernel
theorem ex_badN : ¬ badN exD := net_grid (may_one ex_may) (by decide +kernel)
theorem ex_badS : ¬ badS exD := fun ⟨s, hs⟩ => by
  have hne : psI exD s ≠ 0 := by omega
  obtain ⟨a, b⟩ := pos_dom hne
  have h : ∀ p ∈ parN exD, ∀ c ∈ curN exD, -1099511627776 ≤ psI exD (p, c) ∧ psI exD (p, c) ≤ 1099511627776 := by decide +kernel
  have h2 := h s.1 a s.2 b
  have e : psI exD (s.1, s.2) = psI exD s := rfl
  omega
theorem ex_rings : ringsN exD = exR := by decide +kernel
theorem ex_gone : goneN exD = 9 := by decide +kernel
theorem ex_net : netN exD = exN := by decide +kernel
theorem ex_same : sameP exR exN = true := by decide +kernel
theorem ex_pos : (posN (mF exD)).length = 2 := by decide +kernel
theorem net_ok (l : List Db) (hl : l.length ≤ 4096) (h : l.all mayD = true) (hb : ¬ badS l) : AC Tryz.prog 16 [.d (.sl 4 (l.map dbE))] [] [] (fun r _ => r = .tup [.d (.sl 4 ((netN l).map dbE)), .d (.sc (.int .i64 0))]) :=
  (net_ac l hl h).mono (fun r _ hr => by
    rcases hr with ⟨e, _⟩ | ⟨_, e⟩
    · exact absurd e hb
    · exact e)
theorem net_bad (l : List Db) (hl : l.length ≤ 4096) (h : l.all mayD = true) (hb : badS l) : AC Tryz.prog 16 [.d (.sl 4 (l.map dbE))] [] [] (fun r _ => r = .tup [.d (.sl 4 []), .d (.sc (.int .i64 3))]) :=
  (net_ac l hl h).mono (fun r _ hr => by
    rcases hr with ⟨_, e⟩ | ⟨e, _⟩
    · exact e
    · exact absurd hb e)
set_option maxRecDepth 10000 in
set_option maxHeartbeats 4000000 in
theorem awake_ac : AC Tryz.prog 7 [] [] [] (fun r _ => r = .d (.sc (.bool true))) := by
  have cr := ringsOk_ac exD (by decide) ex_may ex_badN ex_par
  unfold ringsV at cr
  rw [ex_rings, ex_gone] at cr
  have cn := net_ok exD (by decide) ex_may ex_badS
  rw [ex_net] at cn
  have c1 := rSame_ac exR exR (by decide)
  rw [sameB_self] at c1
  have c2 := rSame_ac exN exN (by decide)
  rw [sameB_self] at c2
  have c3 := same_ac exR exN (by decide) (by decide)
  rw [ex_same] at c3
  have c4 := position_ac exD (by decide)
  have hlen : ((posN (mF exD)).map enE).length = 2 := by rw [List.length_map]; exact ex_pos
  have hlen2 := ex_pos
  generalize posN (mF exD) = W at *
  have e1 : eqb (0 : Int) 0 = true := eqb_t.2 rfl
  have e2 : eqb (9 : Int) 9 = true := eqb_t.2 rfl
  have e3 : eqb ((W.length : Nat) : Int) 2 = true := by rw [hlen2]; exact eqb_t.2 rfl
  refine AC_enter Tryz.func7 rfl Tryz.ntmps7 (rv := [.tmp 0]) rfl rfl (by simp) (fun w X G => ?_)
  repeat' (first | ((with_reducible refine gA ?_); (first | refine AW_seq ?_ | refine AW_region ?_ | refine AW_ret ?_)) | ((with_reducible refine gS ?_); refine Es_s (T := Tryz.tab) rfl rfl rfl rfl ?_) | (((with_reducible refine gS ?_); apply Es_q); rfl; (first | rfl | (refine w_tt ?_; assumption)); (first | refine LStep_call (cr) rfl rfl rfl rfl | refine LStep_call (cn) rfl rfl rfl rfl | refine LStep_call (c1) rfl rfl rfl rfl | refine LStep_call (c2) rfl rfl rfl rfl | refine LStep_call (c3) rfl rfl rfl rfl | refine LStep_call (c4) rfl rfl rfl rfl)) | (((with_reducible refine gS ?_); apply Es_q); rfl; (first | rfl | (refine w_tt ?_; assumption)); (first | refine LStep_simp (T := Tryz.tab) rfl rfl | refine LStep_lenM (T := Tryz.tab) rfl rfl rfl rfl | (refine LStep_pickT rfl rfl ?_ rfl rfl; assumption) | (refine LStep_lit (T := Tryz.tab) rfl rfl rfl rfl rfl rfl rfl rfl ?_; (refine Nat.le_of_ble_eq_true ?_; rfl)) | refine LStep_buildN (T := Tryz.tab) rfl rfl rfl rfl rfl rfl rfl)) | (with_reducible refine Es_nil ?_) | (with_reducible refine then_n ?_) | ((with_reducible refine gR ?_); first | refine ret1 rfl ?_ | refine ret2 rfl rfl ?_ | refine ret0 ?_ | refine end1 rfl ?_ | refine end0 ?_))
  all_goals first
    | (rw [e3]; done)
    | trace_state
end Go.Proofs.YtbhgpeghddnidaaGreat
