import Derived.Test.YtjlblnplofgpnaaGreatDoorEE
namespace Go.SL
open Go.RowKit
section
variable {P : Program} {O : Org} {o : Oper} {env : Env} {h : Hp}
def rawB (hc : Hp) (id : Nat) : Bool := (hc.all fun p => match p.2 with | some (.raw _ _) => true | _ => false) && !hasN (keysH hc) id
theorem raw_get : ∀ {hc : Hp}, (hc.all fun p => match p.2 with | some (.raw _ _) => true | _ => false) = true → ∀ {i : Nat} {o : AObj}, hget hc i = some o → ∃ b ob, o = .raw b ob
  | [], _, i, o, h => by cases h
  | (t, v) :: r, H, i, o, h => by
    rw [List.all_cons, Bool.and_eq_true] at H
    rw [hget_cons] at h
    by_cases e : t = i
    · rw [if_pos e] at h
      subst h
      have h1 := H.1
      cases o <;> first
        | exact ⟨_, _, rfl⟩
        | cases h1
    · rw [if_neg e] at h
      exact raw_get H.2 h
/-- the same of a function that reads objects told whole, too -/
theorem LStep_callRB {f : FuncId} {args args' : List AV} {hc : Hp} {ids : List Nat} {rv : AV} (id : Nat) {n e sz : Nat} {es : List (List D)} (C : AC P f args' hc ids (fun r h' => r = rv ∧ Kp hc h')) (ha : callA env o.op = some (f, args)) (hd : dstOk o.dst O.nt = true)
    (hin : SubH hc h) (hp : rawB hc id = true) (hh : hget h id = some (.arr e sz es)) (hn : es.length = n) (hv : ViewL id n sz es args args') (hf : flat rv = true) : LStep P O o env h (id :: keysH hc) [] rv [] := by
  intro env' h' he hT _ a w G r K Q hK
  unfold rawB at hp
  rw [Bool.and_eq_true] at hp
  obtain ⟨hp1, hp2⟩ := hp
  have hidk : id ∉ keysH hc := by
    intro hm
    rw [hasN_mem.2 hm] at hp2
    cases hp2
  have hh' : hget h' id = some (.arr e sz es) := (hT id List.mem_cons_self).trans hh
  have hK' := hin.each
  have hin' : ∀ i o, hget hc i = some o → hget h' i = some o := fun i o ho => (hT i (List.mem_cons_of_mem _ (mem_keysH ho).1)).trans (hK' i o ho)
  obtain ⟨d1, d2⟩ := r.drop hh'
  have hob := r.obj id _ hh'
  obtain ⟨vs, hrun, hlen, hrep⟩ := run_callA ha C.1 he r
  obtain ⟨l1, l2⟩ := hv.get
  have hne : ∀ i o, hget hc i = some o → id ≠ i := fun i o ho e => hidk (e ▸ (mem_keysH ho).1)
  have r0 : Rel O [] ((id, none) :: h') a w G := r.weak (fun t => .inr rfl) (fun i o ho => by
    rw [hget_cons] at ho
    by_cases e : id = i
    · rw [if_pos e] at ho; cases ho
    · rw [if_neg e] at ho; exact ho)
  have H : Handed O [] ((id, none) :: h') G hc (fun i => i) := by
    refine ⟨fun i o ho => ?_, fun i o i' o' h1 h2 h3 => h3, fun i o ho => ?_⟩
    · rw [renO_id, hget_cons, if_neg (hne i o ho)]
      exact hin' i o ho
    · obtain ⟨b, ob, rfl⟩ := raw_get hp1 ho
      rfl
  unfold Oper.wp
  rw [hrun]
  show Calls P f vs.toArray w _
  refine (C.atH H r0 (hlen.trans l1) (fun i y v hy hvv => ?_)).mono ?_
  · rw [ren_id]
    obtain ⟨x, hx, hxy⟩ := l2 i y hy
    have h1 := hrep i x v hx hvv
    rcases hxy with rfl | ⟨rfl, rfl⟩
    · exact h1.ext (Ext.refl (fun _ => False) w) (fun _ _ h => h.elim) (fun b hb hc => d1 b hc) (GStep.refl G)
    · cases h1 with
      | own _ _ _ _ _ _ hvv =>
        rw [hvv (by rw [hob.1, hn])]
        exact .d _ _ (own_sl hob (fun b _ hb => d1 b hb) (fun b hb => d2 b hb (r.xNot hh' hb)))
  · rintro e' w' ⟨v, x, h'', G', rfl, r', hxr, rfl, hsub⟩
    have E : Ext (Own hc G) w w' := r'.ext
    have hOwn : ∀ b, Own hc G b → ∃ i o, hget hc i = some o ∧ blk (G.m i) = some b := fun b hb => by
      obtain ⟨i, o, h1, j, hj, h2⟩ := hb
      obtain ⟨b', ob, rfl⟩ := raw_get hp1 h1
      have : j = i := by simpa [names] using hj
      subst this
      exact ⟨_, _, h1, h2⟩
    have hOwn' : ∀ b, Own hc G b → Own h' G b := fun b hb => by
      obtain ⟨i, o, h1, h2⟩ := hOwn b hb
      exact ⟨i, o, hin' i o h1, i, List.mem_cons_self, h2⟩
    have rk : Rel O env' h' a w' G := by
      refine ⟨r.size, r.dfr, fun t => (r.env t).ext E (fun b _ hb => .inr (hOwn' b hb)) (fun _ _ h => h) (GStep.refl G), fun i o ho => ?_, r.dist, r.ext.transNew E (fun i hi hb => r.own i (hOwn' i hb) hi), r.own, r.xlt, r.ids⟩
      cases hg : hget hc i with
      | some o2 =>
        have e2 := hin' i o2 hg
        rw [ho] at e2
        obtain ⟨b, ob, rfl⟩ := raw_get hp1 hg
        cases e2
        exact ⟨(r.obj i _ ho).1, (r'.obj i _ (hsub i _ hg)).2⟩
      | none =>
        refine (r.obj i o ho).ext E (fun b _ hb => .inr (hOwn' b hb)) (fun _ _ h => h) (fun hh => hh.ext E (fun b _ hb => .inr (hOwn' b hb)) (fun _ _ h => h) (GStep.refl G)) (fun _ _ => ⟨rfl, rfl⟩) (fun j b hj hb hc' => ?_)
        obtain ⟨i2, o2, h1, h2⟩ := hOwn b hc'
        have := (r.dist i o j i2 o2 i2 b ho hj (hin' i2 o2 h1) List.mem_cons_self hb h2).1
        subst this
        rw [hg] at h1
        cases h1
    exact hK v w' G (rk.put hd (flat_rep hxr hf))
end
end Go.SL
namespace Go.Proofs.YtjlblnplofgpnaaGreatDoor
open Go.SL
/-! ### StowAsPut -/
set_option maxRecDepth 10000 in
theorem loadsO_ac (S : Ship) (L : List Load) (hn : (L.map (·.sl)).Nodup) (hl : L.length ≤ 1048576) : AC Tryz.prog 25 [.ptr 1000 0] (hB S L) [1000, 1001, 1002]
    (fun r h' => r = .own 8 ((lsort L).map Load.enc).length ∧ SubH ((8, some (.arr 43 7 ((lsort L).map Load.enc))) :: hB S L) h') := by
  have hD := lsort_doc hn
  have cv := values_ac (slM L)
  have cs := sortedFunc_ac (lsort L) (slM L) (by rw [slM_keys]; exact hn) (by simpa [slM] using hl) (by rw [mvals_slM]; exact hD)
  refine AC_enter Tryz.func25 rfl Tryz.ntmps25 (rv := [.tmp 2]) rfl rfl (by simp) (fun w X G => ?_)
  repeat' (first | ((with_reducible refine gA ?_); (first | refine AW_seq ?_ | refine AW_region ?_ | refine AW_ret ?_)) | ((with_reducible refine gS ?_); refine Es_s (T := Tryz.tab) rfl rfl rfl rfl ?_) | (((with_reducible refine gS ?_); apply Es_xg); rfl; rfl; (first | refine LStep_callHN [(1003, 1001)] [(1, 7)] cv rfl rfl ⟨rfl, trivial⟩ rfl ⟨trivial, trivial⟩ rfl rfl | refine LStep_callHN [(1000, 7), (1003, 1001)] [(7, 8)] cs rfl rfl ⟨rfl, rfl, trivial⟩ rfl ⟨trivial, trivial, trivial⟩ rfl rfl); rfl) | (with_reducible refine Es_nil ?_) | (with_reducible refine then_n ?_) | ((with_reducible refine gR ?_); first | refine ret1 rfl ?_ | refine ret2 rfl rfl ?_ | refine ret0 ?_ | refine end1 rfl ?_ | refine end0 ?_))
  all_goals first
    | exact ⟨congrArg (AV.own 8) (List.length_map _).symm, by (repeat' (first | exact trivial | exact rfl | (refine ⟨Or.inl rfl, ?_⟩) | (refine ⟨Or.inr rfl, ?_⟩) | (refine ⟨Or.inr trivial, ?_⟩) | (refine ⟨rfl, ?_⟩) | (refine ⟨?_, ?_⟩)))⟩
    | trace_state
/-- what is put, one by one, whether it can or not -/
def putsL (S : Ship) (l : List Load) : List Load := l.foldl (putL S) []
theorem putsL_snoc (S : Ship) (l : List Load) (x : Load) : putsL S (l ++ [x]) = putL S (putsL S l) x := by unfold putsL; rw [List.foldl_append]; rfl
theorem putsL_inv {S : Ship} (hS : shipOk S = true) (l : List Load) : Inv2 S (putsL S l) ∧ (putsL S l).length ≤ l.length := by
  induction l using lsnoc with
  | h0 => exact ⟨inv00 hS, Nat.le_refl _⟩
  | h1 l x ih =>
    rw [putsL_snoc]
    unfold putL
    split
    · rename_i h
      exact ⟨put_inv ih.1 h, by rw [List.length_append, List.length_append]; simp only [List.length_cons, List.length_nil]; omega⟩
    · exact ⟨ih.1, by rw [List.length_append]; have := ih.2; omega⟩
def oneMore : ByteArray := ⟨#[111, 110, 101, 45, 109, 111, 114, 101]⟩
set_option maxRecDepth 10000 in
set_option maxHeartbeats 32000000 in
theorem asput_ac (S : Ship) (l : List Load) (hl : l.length ≤ 140737488351232) : AC Tryz.prog 7 [.agg S.cs, .d (.sl 7 (l.map Load.enc))] [hG] [9000] (fun r h' => r = .d (.sc (.bool true)) ∧ SubH [hG] h') := by
  have ca := wakeK_ac
  have c0 := rFew_ac S l hl
  cases e0 : (fewL l && fewS S) with
  | false =>
    rw [e0] at c0
    refine AC_enter Tryz.func7 rfl Tryz.ntmps7 (rv := [.tmp 4]) rfl rfl (by simp) (fun w X G => ?_)
    repeat' (first | ((with_reducible refine gA ?_); (first | refine AW_seq ?_ | refine AW_region ?_ | refine AW_condT rfl ?_ | refine AW_condF rfl ?_ | refine AW_ret ?_ | refine AW_skip ?_)) | ((with_reducible refine gS ?_); refine Es_s (T := Tryz.tab) rfl rfl rfl rfl ?_) | (((with_reducible refine gS ?_); apply Es_q); rfl; rfl; (first | refine LStep_call (c0) rfl rfl rfl rfl | refine LStep_callB ca rfl rfl ⟨rfl, trivial⟩ rfl rfl)) | (refine Es_skip rfl ?_ rfl ?_; (first | rfl | (refine w_tf ?_; assumption) | (refine w_ft ?_; assumption))) | (((with_reducible refine gS ?_); apply Es_xs); rfl; rfl; refine LStep_boxN rfl rfl rfl rfl rfl rfl; rfl) | (with_reducible refine Es_nil ?_) | (with_reducible refine then_n ?_) | (with_reducible refine then_r ?_) | ((with_reducible refine gR ?_); first | refine ret1 rfl ?_ | refine ret2 rfl rfl ?_ | refine ret0 ?_ | refine end1 rfl ?_ | refine end0 ?_))
    all_goals first
      | exact ⟨rfl, by (repeat' (first | exact trivial | exact rfl | (refine ⟨Or.inl rfl, ?_⟩) | (refine ⟨Or.inr rfl, ?_⟩) | (refine ⟨Or.inr trivial, ?_⟩) | (refine ⟨rfl, ?_⟩) | (refine ⟨?_, ?_⟩)))⟩
      | trace_state
  | true =>
  rw [e0] at c0
  obtain ⟨h1, h2, h3⟩ := few_in e0
  cases hS : shipOk S with
  | false =>
    have cn := newNo_ac S hS
    have c1 := sright2_ac S l (by omega)
    have hE : rightE S l = 1 := by unfold rightE standE; rw [hS]; rfl
    rw [hE] at c1
    refine AC_enter Tryz.func7 rfl Tryz.ntmps7 (rv := [.tmp 4]) rfl rfl (by simp) (fun w X G => ?_)
    repeat' (first | ((with_reducible refine gA ?_); (first | refine AW_seq ?_ | refine AW_region ?_ | refine AW_condF rfl ?_ | (refine AW_cond rfl (fun hc => ?_) (fun hc => ?_) <;> try (exfalso; simp only [cmpL] at hc; omega)) | refine AW_ret ?_ | refine AW_skip ?_)) | ((with_reducible refine gS ?_); refine Es_s (T := Tryz.tab) rfl rfl rfl rfl ?_) | (((with_reducible refine gS ?_); apply Es_q); rfl; rfl; (first | refine LStep_call (c0) rfl rfl rfl rfl | refine LStep_call (cn) rfl rfl rfl rfl | refine LStep_callB ca rfl rfl ⟨rfl, trivial⟩ rfl rfl | refine LStep_callB c1 rfl rfl ⟨rfl, trivial⟩ rfl rfl | refine LStep_eqNilN (T := Tryz.tab) rfl rfl rfl rfl)) | (((with_reducible refine gS ?_); apply Es_q); rfl; rfl; refine LStep_simp (T := Tryz.tab) rfl rfl) | (refine Es_skip rfl ?_ rfl ?_; (first | rfl | (refine w_tf ?_; assumption) | (refine w_ft ?_; assumption))) | (((with_reducible refine gS ?_); apply Es_xs); rfl; rfl; refine LStep_boxN rfl rfl rfl rfl rfl rfl; rfl) | (with_reducible refine Es_nil ?_) | (with_reducible refine then_n ?_) | (with_reducible refine then_r ?_) | ((with_reducible refine gR ?_); first | refine ret1 rfl ?_ | refine ret2 rfl rfl ?_ | refine ret0 ?_ | refine end1 rfl ?_ | refine end0 ?_))
    all_goals first
      | exact ⟨rfl, by (repeat' (first | exact trivial | exact rfl | (refine ⟨Or.inl rfl, ?_⟩) | (refine ⟨Or.inr rfl, ?_⟩) | (refine ⟨Or.inr trivial, ?_⟩) | (refine ⟨rfl, ?_⟩) | (refine ⟨?_, ?_⟩)))⟩
      | (refine ⟨?_, by (repeat' (first | exact trivial | exact rfl | (refine ⟨Or.inl rfl, ?_⟩) | (refine ⟨Or.inr rfl, ?_⟩) | (refine ⟨Or.inr trivial, ?_⟩) | (refine ⟨rfl, ?_⟩) | (refine ⟨?_, ?_⟩)))⟩; refine congrArg (fun b => AV.d (D.sc (Value.bool b))) ?_; simp [eqb]; done)
      | (exfalso; simp [eqb] at *; done)
      | trace_state
  | true =>
  have cn := newOk_ac S hS
  have z0 : putsL S (l.take 0) = [] := rfl
  have f0 : (!(eqb 0 0)) = false := by rw [eqb_self]; rfl
  refine AC_enter Tryz.func7 rfl Tryz.ntmps7 (rv := [.tmp 4]) rfl rfl (by simp) (fun w X G => ?_)
  repeat' (first | ((with_reducible refine gA ?_); (first | refine AW_seq ?_ | refine AW_region ?_ | refine AW_condF rfl ?_ | (refine AW_condN rfl ?_ ?_; assumption) | refine AW_block ?_ | refine AW_skip ?_)) | ((with_reducible refine gS ?_); refine Es_s (T := Tryz.tab) rfl rfl rfl rfl ?_) | (((with_reducible refine gS ?_); apply Es_q); rfl; rfl; (first | refine LStep_call (c0) rfl rfl rfl rfl | refine LStep_callB ca rfl rfl ⟨rfl, trivial⟩ rfl rfl | refine LStep_eqNilP (T := Tryz.tab) rfl rfl rfl rfl)) | (((with_reducible refine gS ?_); apply Es_xg); rfl; rfl; refine LStep_callHN [] [(11, 1000), (8, 1001), (9, 1002)] cn rfl rfl trivial rfl trivial rfl rfl; rfl) | (refine Es_skip rfl ?_ rfl ?_; (first | rfl | (refine w_tf ?_; assumption) | (refine w_ft ?_; assumption))) | (((with_reducible refine gS ?_); apply Es_xs); rfl; rfl; refine LStep_boxN rfl rfl rfl rfl rfl rfl; rfl) | (with_reducible refine Es_nil ?_) | (with_reducible refine then_n ?_))
  refine AW_forE (S := Nat) (fun i => i ≤ l.length) (fun i => [(7, .d (.sc (.int .i64 (i : Nat))))]) (fun i => hB S (putsL S (l.take i))) (fun i => l.length - i) 0 (by omega) (by (repeat' (first | exact trivial | exact rfl | (refine ⟨Or.inl rfl, ?_⟩) | (refine ⟨Or.inr rfl, ?_⟩) | (refine ⟨Or.inr trivial, ?_⟩) | (refine ⟨rfl, ?_⟩) | (refine ⟨?_, ?_⟩)))) (by rw [z0]; (repeat' (first | exact trivial | exact rfl | (refine ⟨Or.inl rfl, ?_⟩) | (refine ⟨Or.inr rfl, ?_⟩) | (refine ⟨Or.inr trivial, ?_⟩) | (refine ⟨rfl, ?_⟩) | (refine ⟨?_, ?_⟩)))) ?_
  intro i hi
  obtain ⟨hv, hvl⟩ := putsL_inv hS (l.take i)
  by_cases hlt : i < l.length
  · obtain ⟨x, hx, _⟩ := drop_at hlt
    have g1 : ltb (i : Nat) (l.length : Nat) = true := by rw [ltb_t]; omega
    have hst : putsL S (l.take (i + 1)) = putL S (putsL S (l.take i)) x := by rw [take_at hx, putsL_snoc]
    have cp := put_ac S (putsL S (l.take i)) x hv hS (tot_in2 hv hS)
    rw [← hst] at cp
    generalize putE S (putsL S (l.take i)) x = er at *
    generalize hM : putsL S (l.take (i + 1)) = M at *
    generalize putsL S (l.take i) = L at *
    clear hv hst z0 c0 ca cn
    repeat' (first | ((with_reducible refine gA ?_); (first | refine AW_seq ?_ | refine AW_region ?_ | (refine AW_condY rfl ?_ ?_; assumption) | refine AW_block ?_ | refine AW_skip ?_)) | ((with_reducible refine gS ?_); refine Es_s (T := Tryz.tab) rfl rfl rfl rfl ?_) | (((with_reducible refine gS ?_); apply Es_xg); rfl; rfl; refine LStep_callHN [] [] cp rfl rfl ⟨rfl, rfl, rfl, rfl, trivial⟩ rfl ⟨trivial, trivial, trivial, trivial, trivial⟩ rfl rfl; rfl) | (((with_reducible refine gS ?_); apply Es_q); rfl; rfl; (first | refine LStep_lenM (T := Tryz.tab) rfl rfl rfl rfl | (refine LStep_add rfl rfl rfl rfl ?_; (refine IntWalk.i64_in _ ?_; first | omega | (simp only [cmps] at *; omega))) | (refine LStep_indexM (T := Tryz.tab) (c := ?_) rfl rfl rfl rfl rfl rfl ?_; rotate_left; assumption))) | (with_reducible refine Es_nil ?_) | (with_reducible refine then_n ?_) | (with_reducible refine block_n ?_))
    all_goals first
      | (refine ⟨i + 1, by omega, by omega, by (repeat' (first | exact trivial | exact rfl | (refine ⟨Or.inl rfl, ?_⟩) | (refine ⟨Or.inr rfl, ?_⟩) | (refine ⟨Or.inr trivial, ?_⟩) | (refine ⟨rfl, ?_⟩) | (refine ⟨?_, ?_⟩))), by (repeat' (first | exact trivial | exact rfl | (refine ⟨Or.inl rfl, ?_⟩) | (refine ⟨Or.inr rfl, ?_⟩) | (refine ⟨Or.inr trivial, ?_⟩) | (refine ⟨rfl, ?_⟩) | (refine ⟨?_, ?_⟩))), ?_, by (repeat' (first | exact trivial | exact rfl | (refine ⟨Or.inl rfl, ?_⟩) | (refine ⟨Or.inr rfl, ?_⟩) | (refine ⟨Or.inr trivial, ?_⟩) | (refine ⟨rfl, ?_⟩) | (refine ⟨?_, ?_⟩)))⟩
         rw [hM]; (repeat' (first | exact trivial | exact rfl | (refine ⟨Or.inl rfl, ?_⟩) | (refine ⟨Or.inr rfl, ?_⟩) | (refine ⟨Or.inr trivial, ?_⟩) | (refine ⟨rfl, ?_⟩) | (refine ⟨?_, ?_⟩))))
      | trace_state
  · have : i = l.length := by omega
    subst this
    have g1 : ltb (l.length : Nat) (l.length : Nat) = false := by rw [ltb_f]; omega
    rw [List.take_length] at hv hvl ⊢
    generalize putsL S l = L at *
    have cl := loadsO_ac S L hv.nS (by omega)
    have hp := lsort_perm hv.nS
    have hvD := hv.perm hp.symm
    have hDl : (lsort L).length ≤ 13 := by rw [hp.length_eq]; omega
    generalize lsort L = D at *
    have c1 := sright2_ac S D (by omega)
    have hr : rightE S D = safeE S D := by unfold rightE; rw [if_pos (standE_iff.2 ⟨hS, hvD⟩)]
    rw [hr] at c1
    have c2 := safe_ac S D (by omega)
    have f2 : (!(eqb (safeE S D) (safeE S D))) = false := by rw [eqb_self]; rfl
    by_cases hD0 : D = []
    · subst hD0
      generalize safeE S [] = sv at *
      clear hv hvl hp hvD c0 ca cn z0 hr
      repeat' (first | ((with_reducible refine gA ?_); (first | refine AW_seq ?_ | refine AW_region ?_ | refine AW_regionD Tryz.mixed ?_ | (refine AW_condN rfl ?_ ?_; assumption) | (refine AW_cond rfl (fun hc => ?_) (fun hc => ?_) <;> try (exfalso; simp only [cmpL] at hc; omega)) | refine AW_ret ?_ | refine AW_skip ?_ | refine AW_exit ?_)) | (first | ((with_reducible refine gS ?_); refine Es_s (T := Tryz.tab) rfl rfl rfl rfl ?_) | ((with_reducible refine gD ?_); refine Ed_s (T := Tryz.tab) rfl rfl rfl rfl ?_)) | ((first | ((with_reducible refine gS ?_); apply Es_q) | ((with_reducible refine gD ?_); apply Ed_q)); rfl; rfl; (first | refine LStep_callRB 800 c1 rfl rfl ⟨rfl, trivial⟩ rfl rfl rfl ⟨.inl rfl, .inr ⟨rfl, rfl⟩, trivial⟩ rfl | refine LStep_callR 800 c2 rfl rfl rfl rfl ⟨.inl rfl, .inr ⟨rfl, rfl⟩, trivial⟩ rfl | refine LStep_lenOwn (T := Tryz.tab) rfl rfl rfl rfl rfl rfl)) | (((with_reducible refine gS ?_); apply Es_xg); rfl; rfl; refine LStep_callHN [] [(8, 800)] cl rfl rfl ⟨rfl, rfl, rfl, trivial⟩ rfl ⟨trivial, trivial, trivial, trivial⟩ rfl rfl; rfl) | (((with_reducible refine gS ?_); apply Es_q); rfl; rfl; refine LStep_lenM (T := Tryz.tab) rfl rfl rfl rfl) | (with_reducible refine Es_nil ?_) | ((with_reducible refine Ed_nil ?_ ?_); kernel_rfl) | (with_reducible refine then_n ?_) | (with_reducible refine then_r ?_) | (with_reducible refine then_e ?_) | ((with_reducible refine block_e ?_ ?_); rfl) | ((with_reducible refine gR ?_); first | refine ret1 rfl ?_ | refine ret2 rfl rfl ?_ | refine ret0 ?_ | refine end1 rfl ?_ | refine end0 ?_))
      all_goals first
        | exact ⟨rfl, by (repeat' (first | exact trivial | exact rfl | (refine ⟨Or.inl rfl, ?_⟩) | (refine ⟨Or.inr rfl, ?_⟩) | (refine ⟨Or.inr trivial, ?_⟩) | (refine ⟨rfl, ?_⟩) | (refine ⟨?_, ?_⟩)))⟩
        | (exfalso; simp [eqb] at *; done)
        | trace_state
    · obtain ⟨x, D', rfl⟩ : ∃ x D', D = x :: D' := by
        cases D with
        | nil => exact absurd rfl hD0
        | cons x D' => exact ⟨x, D', rfl⟩
      have hx0 : (x :: D')[(0 : Int).toNat]? = some x := rfl
      have hl0 : 0 < ((x :: D').map Load.enc).length := by simp
      have g2 : eqb (((x :: D').map Load.enc).length : Nat) 0 = false := by rw [eqb_f]; omega
      have cf := rFind_ac (x :: D') oneMore (by omega)
      have c5 : AC Tryz.prog 20 [.agg S.cs, .d (.sl 7 ((x :: D').map Load.enc ++ [[.sc (.int .i64 x.sl.b), .sc (.int .i64 x.sl.r), .sc (.int .i64 x.sl.t), .sc (.string oneMore), .sc (.int .i64 x.w), .sc (.int .i64 x.c), .sc (.int .i64 x.p)]]))] [hG] [9000] (fun r h' => r = .d (.sc (.int .i64 (rightE S ((x :: D') ++ [{ x with box := oneMore }])))) ∧ Kp [hG] h') := by
        have := sright2_ac S ((x :: D') ++ [{ x with box := oneMore }]) (by rw [List.length_append]; simp only [List.length_cons, List.length_nil] at hDl ⊢; omega)
        rw [List.map_append] at this
        exact this
      have hne : rightE S ((x :: D') ++ [{ x with box := oneMore }]) ≠ 0 := by
        intro h
        obtain ⟨⟨_, hv3⟩, _⟩ := rightE_iff.1 h
        have hn := hv3.nS
        rw [List.map_append, List.nodup_append] at hn
        exact hn.2.2 x.sl (by simp) x.sl (by simp) rfl
      have g3 : (!(eqb (rightE S ((x :: D') ++ [{ x with box := oneMore }])) 0)) = true := by rw [eqb_f.2 hne]; rfl
      have hbl : ((x :: D').map Load.enc).length ≤ 13 := by rw [List.length_map]; omega
      generalize rightE S ((x :: D') ++ [{ x with box := oneMore }]) = r5 at *
      generalize safeE S (x :: D') = sv at *
      rcases by_place hvD.nB oneMore with ⟨_, hk⟩ | ⟨j, y, _, _, hk⟩
      · rw [hk] at cf
        have g4 : leb 0 (-1) = false := by rw [leb_f]; omega
        generalize x :: D' = DD at *
        clear hv hvl hp hvD c0 ca cn z0 hr hne
        repeat' (first | ((with_reducible refine gA ?_); (first | refine AW_seq ?_ | refine AW_region ?_ | refine AW_regionD Tryz.mixed ?_ | (refine AW_condN rfl ?_ ?_; assumption) | refine AW_ret ?_ | refine AW_skip ?_ | refine AW_exit ?_)) | (first | ((with_reducible refine gS ?_); refine Es_s (T := Tryz.tab) rfl rfl rfl rfl ?_) | ((with_reducible refine gD ?_); refine Ed_s (T := Tryz.tab) rfl rfl rfl rfl ?_)) | ((first | ((with_reducible refine gS ?_); apply Es_q) | ((with_reducible refine gD ?_); apply Ed_q)); rfl; (first | rfl | (refine w_ff ?_; assumption)); (first | refine LStep_callRB 800 c1 rfl rfl ⟨rfl, trivial⟩ rfl rfl rfl ⟨.inl rfl, .inr ⟨rfl, rfl⟩, trivial⟩ rfl | refine LStep_callR 800 c2 rfl rfl rfl rfl ⟨.inl rfl, .inr ⟨rfl, rfl⟩, trivial⟩ rfl | refine LStep_lenOwn (T := Tryz.tab) rfl rfl rfl rfl rfl rfl | (refine LStep_indexOwnM (T := Tryz.tab) rfl rfl rfl rfl rfl rfl rfl rfl ?_; (first | omega | (simp only [List.length_map]; omega))) | (refine LStep_loadEAM (T := Tryz.tab) (c := ?_) rfl rfl rfl rfl rfl rfl rfl ?_ rfl rfl; rotate_left; assumption) | refine LStep_callR 800 cf rfl rfl rfl rfl ⟨.inr ⟨rfl, rfl⟩, .inl rfl, trivial⟩ rfl | refine LStep_callRB 800 c5 rfl rfl ⟨rfl, trivial⟩ rfl rfl rfl ⟨.inl rfl, .inr ⟨rfl, rfl⟩, trivial⟩ rfl)) | ((first | ((with_reducible refine gS ?_); apply Es_xs) | ((with_reducible refine gD ?_); apply Ed_xs)); rfl; (first | rfl | (refine w_ff ?_; assumption)); (refine LStep_append (T := Tryz.tab) rfl rfl rfl rfl rfl rfl rfl rfl rfl rfl ?_ ?_ ?_; rfl; (simp only [List.length_cons, List.length_nil]; omega); (unfold maxLen; simp only [List.length_cons, List.length_nil]; omega)); rfl) | ((first | ((with_reducible refine gS ?_); apply Es_xg) | ((with_reducible refine gD ?_); apply Ed_xg)); rfl; (first | rfl | (refine w_ff ?_; assumption)); refine LStep_callHN [] [(8, 800)] cl rfl rfl ⟨rfl, rfl, rfl, trivial⟩ rfl ⟨trivial, trivial, trivial, trivial⟩ rfl rfl; rfl) | ((first | ((with_reducible refine gS ?_); apply Es_q) | ((with_reducible refine gD ?_); apply Ed_q)); rfl; (first | rfl | (refine w_ff ?_; assumption)); (first | refine LStep_simp (T := Tryz.tab) rfl rfl | refine LStep_lenM (T := Tryz.tab) rfl rfl rfl rfl | (refine LStep_pickF rfl rfl ?_ rfl rfl; assumption) | (refine LStep_lit (T := Tryz.tab) rfl rfl rfl rfl rfl rfl rfl rfl ?_; (refine Nat.le_of_ble_eq_true ?_; rfl)))) | (refine Es_skip rfl ?_ rfl ?_; (first | rfl | (refine w_tf ?_; assumption) | (refine w_ft ?_; assumption))) | (((with_reducible refine gS ?_); apply Es_xs); rfl; rfl; refine LStep_allocN (T := Tryz.tab) rfl rfl rfl rfl rfl rfl; rfl) | (((with_reducible refine gS ?_); apply Es_xn); rfl; rfl; (refine LStep_storeN (T := Tryz.tab) rfl rfl rfl rfl rfl rfl rfl ?_ rfl; (refine Nat.le_of_ble_eq_true ?_; rfl)); rfl) | (with_reducible refine Es_nil ?_) | ((with_reducible refine Ed_nil ?_ ?_); kernel_rfl) | (with_reducible refine then_n ?_) | (with_reducible refine then_e ?_) | ((with_reducible refine block_e ?_ ?_); rfl) | ((with_reducible refine gR ?_); first | refine ret1 rfl ?_ | refine ret2 rfl rfl ?_ | refine ret0 ?_ | refine end1 rfl ?_ | refine end0 ?_))
        all_goals first
          | exact ⟨rfl, by (repeat' (first | exact trivial | exact rfl | (refine ⟨Or.inl rfl, ?_⟩) | (refine ⟨Or.inr rfl, ?_⟩) | (refine ⟨Or.inr trivial, ?_⟩) | (refine ⟨rfl, ?_⟩) | (refine ⟨?_, ?_⟩)))⟩
          | (refine ⟨?_, by (repeat' (first | exact trivial | exact rfl | (refine ⟨Or.inl rfl, ?_⟩) | (refine ⟨Or.inr rfl, ?_⟩) | (refine ⟨Or.inr trivial, ?_⟩) | (refine ⟨rfl, ?_⟩) | (refine ⟨?_, ?_⟩)))⟩; refine congrArg (fun b => AV.d (D.sc (Value.bool b))) ?_; exact g3)
          | trace_state
      · rw [hk] at cf
        have g4 : leb 0 (j : Nat) = true := by rw [leb_t]; omega
        generalize x :: D' = DD at *
        clear hv hvl hp hvD c0 ca cn z0 hr hne
        repeat' (first | ((with_reducible refine gA ?_); (first | refine AW_seq ?_ | refine AW_region ?_ | refine AW_regionD Tryz.mixed ?_ | (refine AW_condN rfl ?_ ?_; assumption) | refine AW_ret ?_ | refine AW_skip ?_ | refine AW_exit ?_)) | (first | ((with_reducible refine gS ?_); refine Es_s (T := Tryz.tab) rfl rfl rfl rfl ?_) | ((with_reducible refine gD ?_); refine Ed_s (T := Tryz.tab) rfl rfl rfl rfl ?_)) | ((first | ((with_reducible refine gS ?_); apply Es_q) | ((with_reducible refine gD ?_); apply Ed_q)); rfl; rfl; (first | refine LStep_callRB 800 c1 rfl rfl ⟨rfl, trivial⟩ rfl rfl rfl ⟨.inl rfl, .inr ⟨rfl, rfl⟩, trivial⟩ rfl | refine LStep_callR 800 c2 rfl rfl rfl rfl ⟨.inl rfl, .inr ⟨rfl, rfl⟩, trivial⟩ rfl | refine LStep_lenOwn (T := Tryz.tab) rfl rfl rfl rfl rfl rfl | (refine LStep_indexOwnM (T := Tryz.tab) rfl rfl rfl rfl rfl rfl rfl rfl ?_; (first | omega | (simp only [List.length_map]; omega))) | (refine LStep_loadEAM (T := Tryz.tab) (c := ?_) rfl rfl rfl rfl rfl rfl rfl ?_ rfl rfl; rotate_left; assumption) | refine LStep_callR 800 cf rfl rfl rfl rfl ⟨.inr ⟨rfl, rfl⟩, .inl rfl, trivial⟩ rfl)) | ((first | ((with_reducible refine gS ?_); apply Es_xg) | ((with_reducible refine gD ?_); apply Ed_xg)); rfl; rfl; refine LStep_callHN [] [(8, 800)] cl rfl rfl ⟨rfl, rfl, rfl, trivial⟩ rfl ⟨trivial, trivial, trivial, trivial⟩ rfl rfl; rfl) | ((first | ((with_reducible refine gS ?_); apply Es_q) | ((with_reducible refine gD ?_); apply Ed_q)); rfl; rfl; (first | refine LStep_lenM (T := Tryz.tab) rfl rfl rfl rfl | (refine LStep_pickT rfl rfl ?_ rfl rfl; assumption))) | ((first | refine Es_skip rfl ?_ rfl ?_ | refine Ed_skip rfl ?_ rfl ?_); (first | rfl | (refine w_tf ?_; assumption) | (refine w_ft ?_; assumption))) | (((with_reducible refine gS ?_); apply Es_xs); rfl; rfl; refine LStep_allocN (T := Tryz.tab) rfl rfl rfl rfl rfl rfl; rfl) | (((with_reducible refine gS ?_); apply Es_xn); rfl; rfl; (refine LStep_storeN (T := Tryz.tab) rfl rfl rfl rfl rfl rfl rfl ?_ rfl; (refine Nat.le_of_ble_eq_true ?_; rfl)); rfl) | (with_reducible refine Es_nil ?_) | ((with_reducible refine Ed_nil ?_ ?_); kernel_rfl) | (with_reducible refine then_n ?_) | (with_reducible refine then_e ?_) | ((with_reducible refine block_e ?_ ?_); rfl) | ((with_reducible refine gR ?_); first | refine ret1 rfl ?_ | refine ret2 rfl rfl ?_ | refine ret0 ?_ | refine end1 rfl ?_ | refine end0 ?_))
        all_goals first
          | exact ⟨rfl, by (repeat' (first | exact trivial | exact rfl | (refine ⟨Or.inl rfl, ?_⟩) | (refine ⟨Or.inr rfl, ?_⟩) | (refine ⟨Or.inr trivial, ?_⟩) | (refine ⟨rfl, ?_⟩) | (refine ⟨?_, ?_⟩)))⟩
          | trace_state
end Go.Proofs.YtjlblnplofgpnaaGreatDoor
