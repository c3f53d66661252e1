import Derived.Test.YtofdnkgieigncaaRF
namespace Go.Proofs.Ytofdnkgieigncaa
open Go.SL
open Go.MapKept
/-! ### the row -/
/-- a look-up of a row, found or not -/
theorem LStep_lookupSl {P : Program} {O : Org} {T : Tab P} {env : Env} {h : Hp} {o : Oper} {t kt et id sz : Nat} {x i : Operand} {es : List (Value × AV)} {it : Option (Nat × List Value × Option Value)} {dk : KK} {k : Value} {c : AV} (ho : o.op = .lookup t x i false) (hd : dstOk o.dst O.nt = true) (hT : T.desc t = some (.map kt et)) (hK : T.keyD kt = some dk) (hx : evalA env x = .mp id) (hi : keyV (evalA env i) = some k) (hk : keyB dk k = true)
    (hh : hget h id = some (.map kt et es it)) (hz : (lkT T.inf et).map (·.2.2) = some (.slice none 0 0)) (hb : ∀ p ∈ es, keyB dk p.1 = true) (hf : (mfind k es).getD (.d (.sl sz [])) = c) : LStep P O o env h [id] [] c [] := by
  cases hm : mfind k es with
  | some c' =>
    rw [hm, Option.getD_some] at hf
    exact hf ▸ LStep_lookup ho hd hT hK hx hi hk hh hb hm
  | none =>
    rw [hm, Option.getD_none] at hf
    subst hf
    intro env' h' he hTs _ a w G r K Q hKK
    have h1' := evalA_rep r.env x
    have h2 := evalA_rep r.env i
    rw [he x (by simp [ho, Op.operands]), hx] at h1'
    rw [he i (by simp [ho, Op.operands])] at h2
    replace h2 := keyV_rep hi h2
    obtain ⟨b, ents, clock, e1, e2, q, f1, f2⟩ := map_at r ((hTs id (by simp)).trans hh) hK hk hb
    unfold mfind at hm
    cases hm' : mat k es 0 with
    | some p => rw [hm'] at hm; cases hm
    | none =>
      rw [hm'] at f2
      subst f2
      have hzr : (zeroValue et).run P w = .ok (.slice none 0 0) w := by
        cases hl : lkT T.inf et with
        | none => rw [hl] at hz; cases hz
        | some p =>
          obtain ⟨s, b, z⟩ := p
          rw [hl] at hz
          cases hz
          obtain ⟨i, e1, _, _, e4⟩ := T.inf_ok _ (lkT_mem hl)
          simp [zeroValue, typeInfo, e1, e4]
      generalize hv : a.eval x = v' at h1'
      cases h1' with
      | mp _ b' hb' =>
        obtain rfl : b = b' := by rw [e1] at hb'; cases hb'; rfl
        refine wp_value (v := .slice none 0 0) (w' := w) ?_ (hKK _ w G (r.put hd (.d _ _ (.sl _ _ none 0 0 0 0 (fun _ _ => .nilFunc) rfl (Nat.le_refl _) (fun h => absurd h (by decide)) (fun i e h => by cases h) (fun i e h => by cases h) (fun i e h => by cases h)))))
        simp [execOp, ho, hv, h2, Instr.lookup, run_underlying (T.desc_ok hT), Go.MapKept.run_getObj_map e2, chk_run hK hk, f1, hzr]
theorem nb_find {l : List RP} {day : Int} {w : List (ByteArray × List ByteArray)} (hw : w.Perm (nbM (akeys (chM l day)))) (a : ByteArray) :
    (mfind (sV a) (w.map fun p => (sV p.1, AV.d (.sl 1 (rowE (sortS p.2)))))).getD (.d (.sl 1 [])) = .d (.sl 1 (rowE (nb l day a))) := by
  obtain ⟨h1, _, h3⟩ := nbM_spec (akeys (chM l day))
  have hn : (akeys w).Nodup := (hw.map _).nodup_iff.2 h1
  have e : (w.map fun p => (sV p.1, AV.d (.sl 1 (rowE (sortS p.2))))) = emap sV (fun r => AV.d (.sl 1 (rowE (sortS r)))) w := rfl
  rw [e, mfind_emap sV_keq, aget_permR hw hn]
  have := h3 a
  unfold nb
  cases hq : aget a (nbM (akeys (chM l day))) with
  | some r => rw [hq] at this; rw [← this]; rfl
  | none =>
    rw [hq] at this
    rw [← this]
    have e : sortS [] = [] := (sortS_perm []).eq_nil
    show AV.d (.sl 1 []) = AV.d (.sl 1 (rowE (sortS [])))
    rw [e]
    rfl
theorem at_split {α : Type} {l : List α} {k : Nat} {a : α} (ha : l[k]? = some a) : l = l.take k ++ a :: l.drop (k + 1) := by
  obtain ⟨hlt, rfl⟩ := List.getElem?_eq_some_iff.1 ha
  rw [← List.drop_eq_getElem_cons hlt, List.take_append_drop]
theorem nb_len {l : List RP} (hl : l.length ≤ 4096) (day : Int) (a : ByteArray) : (nb l day a).length ≤ 8192 := by
  unfold nb
  rw [(sortS_perm _).length_eq]
  have h1 := nbrs_len (akeys (chM l day)) a
  have h2 := chM_len l day
  have h3 : (akeys (chM l day)).length = (chM l day).length := List.length_map _
  omega
set_option maxRecDepth 10000 in
theorem linked_ac (l : List RP) (day : Int) (es2 : List (Value × AV)) (a t : ByteArray) : AC Try.prog 57 [.d (.sc (.string a)), .ptr 1002 0, .ptr 1003 0] (hCm l day es2 ++ [(1002, some (.cells [.mp 1000, .mp 1001])), (1003, some (.cells [.d (.sc (.string t))]))]) [1000, 1001, 1002, 1003]
    (fun r h' => r = .d (.sc (.bool (hasL l day a t))) ∧ SubH (hCm l day es2 ++ [(1002, some (.cells [.mp 1000, .mp 1001])), (1003, some (.cells [.d (.sc (.string t))]))]) h') := by
  have cr := rateM_ac l day es2 a t
  unfold hasL lkV rtV at *
  unfold hCm at *
  generalize linkR l day a t = x at *
  refine AC_enter Try.func57 rfl Try.ntmps57 (rv := [.tmp 4]) rfl rfl (by simp) (fun w X G => ?_)
  repeat' (first | ((with_reducible refine gA ?_); (first | refine AW_seq ?_ | refine AW_region ?_ | refine AW_ret ?_)) | ((with_reducible refine gS ?_); refine Es_s (T := Try.tab) rfl rfl rfl rfl ?_) | (((with_reducible refine gS ?_); apply Es_xg); rfl; rfl; refine LStep_callHN [(1000, 1000), (1001, 1001)] [] cr rfl rfl ⟨rfl, rfl, trivial⟩ rfl ⟨trivial, trivial, trivial⟩ rfl rfl; rfl) | (refine Es_skip rfl ?_ rfl ?_; (first | rfl | (refine w_tf ?_; assumption) | (refine w_ft ?_; assumption))) | (((with_reducible refine gS ?_); apply Es_xs); rfl; rfl; refine LStep_allocN (T := Try.tab) rfl rfl rfl rfl rfl rfl; rfl) | (((with_reducible refine gS ?_); apply Es_xn); rfl; rfl; (refine LStep_storeN (T := Try.tab) rfl rfl rfl rfl rfl rfl rfl ?_ rfl; (refine Nat.le_of_ble_eq_true ?_; rfl)); rfl) | (with_reducible refine Es_nil ?_) | (with_reducible refine then_n ?_) | ((with_reducible refine gR ?_); first | refine ret1 rfl ?_ | refine ret2 rfl rfl ?_ | refine ret0 ?_ | refine end1 rfl ?_ | refine end0 ?_))
  all_goals first
    | exact ⟨rfl, by (repeat' (first | exact trivial | exact rfl | (refine ⟨Or.inl rfl, ?_⟩) | (refine ⟨Or.inr rfl, ?_⟩) | (refine ⟨Or.inr trivial, ?_⟩) | (refine ⟨rfl, ?_⟩) | (refine ⟨?_, ?_⟩)))⟩
    | trace_state
theorem find_at {α : Type} {p : α → Bool} {l : List α} {k : Nat} {a : α} (ha : l[k]? = some a) (hk : ∀ x ∈ l.take k, p x = false) :
    (p a = true → l.find? p = some a) ∧ (p a = false → ∀ x ∈ l.take (k + 1), p x = false) := by
  refine ⟨fun h => ?_, fun h x hx => ?_⟩
  · have key : ∀ m, m = l.take k ++ a :: l.drop (k + 1) → m.find? p = some a := by
      rintro m rfl
      rw [List.find?_append, List.find?_eq_none.2 (fun x hx => by rw [hk x hx]; decide), Option.none_or, List.find?_cons_of_pos h]
    exact key l (at_split ha)
  · rw [take_at ha] at hx
    rcases List.mem_append.1 hx with q | q
    · exact hk x q
    · rw [List.mem_singleton.1 q]; exact h
theorem find_end {α : Type} {p : α → Bool} {l : List α} (hk : ∀ x ∈ l.take l.length, p x = false) : l.find? p = none := by
  rw [List.take_length] at hk
  exact List.find?_eq_none.2 (fun x hx => by rw [hk x hx]; decide)
theorem findS_at {α β : Type} {g : α → Option β} {l : List α} {k : Nat} {a : α} (ha : l[k]? = some a) (hk : ∀ x ∈ l.take k, g x = none) :
    (∀ b, g a = some b → l.findSome? g = some b) ∧ (g a = none → ∀ x ∈ l.take (k + 1), g x = none) := by
  refine ⟨fun b h => ?_, fun h x hx => ?_⟩
  · have key : ∀ m, m = l.take k ++ a :: l.drop (k + 1) → m.findSome? g = some b := by
      rintro m rfl
      rw [List.findSome?_append, List.findSome?_eq_none_iff.2 hk, Option.none_or, List.findSome?_cons, h]
    exact key l (at_split ha)
  · rw [take_at ha] at hx
    rcases List.mem_append.1 hx with q | q
    · exact hk x q
    · rw [List.mem_singleton.1 q]; exact h
theorem findS_end {α β : Type} {g : α → Option β} {l : List α} (hk : ∀ x ∈ l.take l.length, g x = none) : l.findSome? g = none := by
  rw [List.take_length] at hk
  exact List.findSome?_eq_none_iff.2 hk
def rowG (l : List RP) (day : Int) (f t a : ByteArray) : Option (List ByteArray) := ((nb l day a).find? fun b => !(decide (b = f)) && hasL l day b t).map fun b => [f, a, b, t]
def rowS (x : List ByteArray) : AV := .d (.sl 1 (rowE x))
set_option maxRecDepth 10000 in
set_option maxHeartbeats 8000000 in
theorem rowM_ac (l : List RP) (day : Int) (f t : ByteArray) (hl : l.length ≤ 4096) (w : List (ByteArray × List ByteArray)) (hw : w.Perm (nbM (akeys (chM l day)))) :
    AC Try.prog 45 [.agg [.mp 1000, .mp 1001], .d (.sc (.string f)), .d (.sc (.string t))] (hCm l day (w.map fun p => (sV p.1, AV.d (.sl 1 (rowE (sortS p.2)))))) [1000, 1001]
    (fun r h' => r = rowS (rowP l day f t) ∧ SubH (hCm l day (w.map fun p => (sV p.1, AV.d (.sl 1 (rowE (sortS p.2)))))) h') := by
  have hsk : ∀ p ∈ (w.map fun p => (sV p.1, AV.d (.sl 1 (rowE (sortS p.2))))), keyB .string p.1 = true := st_keys (cv := fun r => AV.d (.sl 1 (rowE (sortS r)))) w
  have hnf := nb_find hw
  have hnl := nb_len hl day
  generalize (w.map fun p => (sV p.1, AV.d (.sl 1 (rowE (sortS p.2))))) = es2 at *
  have cl := fun a => linked_ac l day es2 a t
  unfold rowS rowP
  by_cases he : f = t
  · rw [if_pos he]
    unfold hCm
    refine AC_enter Try.func45 rfl Try.ntmps45 (rv := [.tmp 6]) rfl rfl (by simp) (fun w X G => ?_)
    repeat' (first | ((with_reducible refine gA ?_); (first | refine AW_seq ?_ | refine AW_region ?_ | (refine AW_cond rfl (fun hc => ?_) (fun hc => ?_) <;> try (exfalso; simp only [cmpL] at hc; omega)) | refine AW_ret ?_ | refine AW_skip ?_)) | ((with_reducible refine gS ?_); refine Es_s (T := Try.tab) rfl rfl rfl rfl ?_) | (((with_reducible refine gS ?_); apply Es_q); rfl; rfl; (refine LStep_lit (T := Try.tab) rfl rfl rfl rfl rfl rfl rfl rfl ?_; (refine Nat.le_of_ble_eq_true ?_; rfl))) | (refine Es_skip rfl ?_ rfl ?_; (first | rfl | (refine w_tf ?_; assumption) | (refine w_ft ?_; assumption))) | (((with_reducible refine gS ?_); apply Es_xs); rfl; rfl; refine LStep_boxN rfl rfl rfl rfl rfl rfl; rfl) | (with_reducible refine Es_nil ?_) | (with_reducible refine then_n ?_) | (with_reducible refine then_r ?_) | ((with_reducible refine gR ?_); first | refine ret1 rfl ?_ | refine ret2 rfl rfl ?_ | refine ret0 ?_ | refine end1 rfl ?_ | refine end0 ?_))
    all_goals simp only [cmps] at *
    all_goals first
      | (exfalso; contradiction)
      | exact ⟨rfl, by (repeat' (first | exact trivial | exact rfl | (refine ⟨Or.inl rfl, ?_⟩) | (refine ⟨Or.inr rfl, ?_⟩) | (refine ⟨Or.inr trivial, ?_⟩) | (refine ⟨rfl, ?_⟩) | (refine ⟨?_, ?_⟩)))⟩
      | exact ⟨trivial, by (repeat' (first | exact trivial | exact rfl | (refine ⟨Or.inl rfl, ?_⟩) | (refine ⟨Or.inr rfl, ?_⟩) | (refine ⟨Or.inr trivial, ?_⟩) | (refine ⟨rfl, ?_⟩) | (refine ⟨?_, ?_⟩)))⟩
      | trace_state
  rw [if_neg he]
  have clf := cl f
  have hff := hnf f
  by_cases hd : hasL l day f t = true
  · rw [if_pos hd]
    rw [hd] at clf
    unfold hCm at *
    refine AC_enter Try.func45 rfl Try.ntmps45 (rv := [.tmp 6]) rfl rfl (by simp) (fun w X G => ?_)
    repeat' (first | ((with_reducible refine gA ?_); (first | refine AW_seq ?_ | refine AW_region ?_ | refine AW_condT rfl ?_ | (refine AW_cond rfl (fun hc => ?_) (fun hc => ?_) <;> try (exfalso; simp only [cmpL] at hc; omega)) | refine AW_ret ?_ | refine AW_skip ?_)) | ((with_reducible refine gS ?_); refine Es_s (T := Try.tab) rfl rfl rfl rfl ?_) | (((with_reducible refine gS ?_); apply Es_xg); rfl; rfl; refine LStep_callHN [(1000, 1000), (1001, 1001), (1002, 3), (1003, 5)] [] clf rfl rfl ⟨rfl, rfl, rfl, rfl, trivial⟩ rfl ⟨trivial, trivial, trivial, trivial, trivial⟩ rfl rfl; rfl) | (((with_reducible refine gS ?_); apply Es_q); rfl; rfl; (refine LStep_lit (T := Try.tab) rfl rfl rfl rfl rfl rfl rfl rfl ?_; (refine Nat.le_of_ble_eq_true ?_; rfl))) | (refine Es_skip rfl ?_ rfl ?_; (first | rfl | (refine w_tf ?_; assumption) | (refine w_ft ?_; assumption))) | (((with_reducible refine gS ?_); apply Es_xs); rfl; rfl; refine LStep_boxN rfl rfl rfl rfl rfl rfl; rfl) | (with_reducible refine Es_nil ?_) | (with_reducible refine then_n ?_) | (with_reducible refine then_r ?_) | ((with_reducible refine gR ?_); first | refine ret1 rfl ?_ | refine ret2 rfl rfl ?_ | refine ret0 ?_ | refine end1 rfl ?_ | refine end0 ?_))
    all_goals simp only [cmps] at *
    all_goals first
      | (exfalso; contradiction)
      | exact ⟨rfl, by (repeat' (first | exact trivial | exact rfl | (refine ⟨Or.inl rfl, ?_⟩) | (refine ⟨Or.inr rfl, ?_⟩) | (refine ⟨Or.inr trivial, ?_⟩) | (refine ⟨rfl, ?_⟩) | (refine ⟨?_, ?_⟩)))⟩
      | exact ⟨trivial, by (repeat' (first | exact trivial | exact rfl | (refine ⟨Or.inl rfl, ?_⟩) | (refine ⟨Or.inr rfl, ?_⟩) | (refine ⟨Or.inr trivial, ?_⟩) | (refine ⟨rfl, ?_⟩) | (refine ⟨?_, ?_⟩)))⟩
      | trace_state
  rw [if_neg hd]
  replace hd : hasL l day f t = false := by simpa using hd
  rw [hd] at clf
  have hlf := hnl f
  have hrow : (fun a => ((nb l day a).find? fun b => !(decide (b = f)) && hasL l day b t).map fun b => [f, a, b, t]) = rowG l day f t := rfl
  rw [hrow]
  generalize hL : nb l day f = L at *
  unfold rowE at hff ⊢
  unfold hCm at *
  refine AC_enter Try.func45 rfl Try.ntmps45 (rv := [.tmp 6]) rfl rfl (by simp) (fun w X G => ?_)
  repeat' (first | ((with_reducible refine gA ?_); (first | refine AW_seq ?_ | refine AW_region ?_ | refine AW_condF rfl ?_ | (refine AW_cond rfl (fun hc => ?_) (fun hc => ?_) <;> try (exfalso; simp only [cmpL] at hc; omega)) | refine AW_block ?_ | refine AW_ret ?_ | refine AW_skip ?_)) | ((with_reducible refine gS ?_); refine Es_s (T := Try.tab) rfl rfl rfl rfl ?_) | (((with_reducible refine gS ?_); apply Es_q); rfl; rfl; refine LStep_lookupSl (T := Try.tab) rfl rfl rfl rfl rfl rfl rfl rfl rfl hsk hff) | (((with_reducible refine gS ?_); apply Es_xg); rfl; rfl; refine LStep_callHN [(1000, 1000), (1001, 1001), (1002, 3), (1003, 5)] [] clf rfl rfl ⟨rfl, rfl, rfl, rfl, trivial⟩ rfl ⟨trivial, trivial, trivial, trivial, trivial⟩ rfl rfl; rfl) | (((with_reducible refine gS ?_); apply Es_q); rfl; rfl; (first | refine LStep_lenM (T := Try.tab) rfl rfl rfl rfl | (refine LStep_lit (T := Try.tab) rfl rfl rfl rfl rfl rfl rfl rfl ?_; (refine Nat.le_of_ble_eq_true ?_; rfl)))) | (refine Es_skip rfl ?_ rfl ?_; (first | rfl | (refine w_tf ?_; assumption) | (refine w_ft ?_; assumption))) | (((with_reducible refine gS ?_); apply Es_xs); rfl; rfl; refine LStep_boxN rfl rfl rfl rfl rfl rfl; rfl) | (with_reducible refine Es_nil ?_) | (with_reducible refine then_n ?_) | (with_reducible refine then_r ?_) | ((with_reducible refine gR ?_); first | refine ret1 rfl ?_ | refine ret2 rfl rfl ?_ | refine ret0 ?_ | refine end1 rfl ?_ | refine end0 ?_))
  · simp only [cmps] at *; exfalso; contradiction
  refine AW_forE (S := Nat) (fun k => k ≤ L.length ∧ ∀ x ∈ L.take k, hasL l day x t = false) (fun k => [(31, .d (.sc (.int .i64 (k : Nat))))]) (fun _ => []) (fun k => L.length - k) 0 ⟨by omega, by simp⟩ (by (repeat' (first | exact trivial | exact rfl | (refine ⟨Or.inl rfl, ?_⟩) | (refine ⟨Or.inr rfl, ?_⟩) | (refine ⟨Or.inr trivial, ?_⟩) | (refine ⟨rfl, ?_⟩) | (refine ⟨?_, ?_⟩)))) (by (repeat' (first | exact trivial | exact rfl | (refine ⟨Or.inl rfl, ?_⟩) | (refine ⟨Or.inr rfl, ?_⟩) | (refine ⟨Or.inr trivial, ?_⟩) | (refine ⟨rfl, ?_⟩) | (refine ⟨?_, ?_⟩)))) ?_
  intro k ⟨hk, hf⟩
  by_cases hlt : k < L.length
  · obtain ⟨a, ha, _⟩ := drop_at hlt
    obtain ⟨hy, hn⟩ := find_at ha hf
    have cla := cl a
    cases hh : hasL l day a t with
    | true =>
      rw [hh] at cla
      rw [hy hh]
      repeat' (first | ((with_reducible refine gA ?_); (first | refine AW_seq ?_ | refine AW_region ?_ | refine AW_condT rfl ?_ | (refine AW_cond rfl (fun hc => ?_) (fun hc => ?_) <;> try (exfalso; simp only [cmpL] at hc; omega)) | refine AW_block ?_ | refine AW_ret ?_ | refine AW_skip ?_)) | ((with_reducible refine gS ?_); refine Es_s (T := Try.tab) rfl rfl rfl rfl ?_) | (((with_reducible refine gS ?_); apply Es_xg); rfl; rfl; refine LStep_callHN [(1000, 1000), (1001, 1001), (1002, 3), (1003, 5)] [] cla rfl rfl ⟨rfl, rfl, rfl, rfl, trivial⟩ rfl ⟨trivial, trivial, trivial, trivial, trivial⟩ rfl rfl; rfl) | (((with_reducible refine gS ?_); apply Es_q); rfl; rfl; (first | (refine LStep_indexM (T := Try.tab) (c := ?_) rfl rfl rfl rfl rfl rfl ?_; rotate_left; assumption) | (refine LStep_lit (T := Try.tab) rfl rfl rfl rfl rfl rfl rfl rfl ?_; (refine Nat.le_of_ble_eq_true ?_; rfl)))) | (with_reducible refine Es_nil ?_) | (with_reducible refine then_n ?_) | (with_reducible refine then_r ?_) | (with_reducible refine block_r ?_) | ((with_reducible refine gR ?_); first | refine ret1 rfl ?_ | refine ret2 rfl rfl ?_ | refine ret0 ?_ | refine end1 rfl ?_ | refine end0 ?_))
      all_goals simp only [cmps] at *
      all_goals first
        | (exfalso; omega)
        | exact ⟨rfl, by (repeat' (first | exact trivial | exact rfl | (refine ⟨Or.inl rfl, ?_⟩) | (refine ⟨Or.inr rfl, ?_⟩) | (refine ⟨Or.inr trivial, ?_⟩) | (refine ⟨rfl, ?_⟩) | (refine ⟨?_, ?_⟩)))⟩
        | exact ⟨trivial, by (repeat' (first | exact trivial | exact rfl | (refine ⟨Or.inl rfl, ?_⟩) | (refine ⟨Or.inr rfl, ?_⟩) | (refine ⟨Or.inr trivial, ?_⟩) | (refine ⟨rfl, ?_⟩) | (refine ⟨?_, ?_⟩)))⟩
        | trace_state
    | false =>
      rw [hh] at cla
      repeat' (first | ((with_reducible refine gA ?_); (first | refine AW_seq ?_ | refine AW_region ?_ | refine AW_condF rfl ?_ | (refine AW_cond rfl (fun hc => ?_) (fun hc => ?_) <;> try (exfalso; simp only [cmpL] at hc; omega)) | refine AW_block ?_ | refine AW_skip ?_)) | ((with_reducible refine gS ?_); refine Es_s (T := Try.tab) rfl rfl rfl rfl ?_) | (((with_reducible refine gS ?_); apply Es_xg); rfl; rfl; refine LStep_callHN [(1000, 1000), (1001, 1001), (1002, 3), (1003, 5)] [] cla rfl rfl ⟨rfl, rfl, rfl, rfl, trivial⟩ rfl ⟨trivial, trivial, trivial, trivial, trivial⟩ rfl rfl; rfl) | (((with_reducible refine gS ?_); apply Es_q); rfl; rfl; (first | (refine LStep_add rfl rfl rfl rfl ?_; (refine IntWalk.i64_in _ ?_; first | omega | (simp only [cmps] at *; omega))) | (refine LStep_indexM (T := Try.tab) (c := ?_) rfl rfl rfl rfl rfl rfl ?_; rotate_left; assumption))) | (with_reducible refine Es_nil ?_) | (with_reducible refine then_n ?_) | (with_reducible refine block_n ?_))
      all_goals simp only [cmps] at *
      all_goals first
        | (exfalso; omega)
        | (refine ⟨k + 1, ?_, by omega, by (repeat' (first | exact trivial | exact rfl | (refine ⟨Or.inl rfl, ?_⟩) | (refine ⟨Or.inr rfl, ?_⟩) | (refine ⟨Or.inr trivial, ?_⟩) | (refine ⟨rfl, ?_⟩) | (refine ⟨?_, ?_⟩))), by (repeat' (first | exact trivial | exact rfl | (refine ⟨Or.inl rfl, ?_⟩) | (refine ⟨Or.inr rfl, ?_⟩) | (refine ⟨Or.inr trivial, ?_⟩) | (refine ⟨rfl, ?_⟩) | (refine ⟨?_, ?_⟩))), by (repeat' (first | exact trivial | exact rfl | (refine ⟨Or.inl rfl, ?_⟩) | (refine ⟨Or.inr rfl, ?_⟩) | (refine ⟨Or.inr trivial, ?_⟩) | (refine ⟨rfl, ?_⟩) | (refine ⟨?_, ?_⟩))), by (repeat' (first | exact trivial | exact rfl | (refine ⟨Or.inl rfl, ?_⟩) | (refine ⟨Or.inr rfl, ?_⟩) | (refine ⟨Or.inr trivial, ?_⟩) | (refine ⟨rfl, ?_⟩) | (refine ⟨?_, ?_⟩)))⟩; exact ⟨by omega, hn hh⟩)
        | trace_state
  have hkL : k = L.length := by omega
  subst hkL
  rw [find_end hf]
  clear hf hk
  repeat' (first | ((with_reducible refine gA ?_); (first | refine AW_seq ?_ | refine AW_region ?_ | (refine AW_cond rfl (fun hc => ?_) (fun hc => ?_) <;> try (exfalso; simp only [cmpL] at hc; omega)) | refine AW_block ?_ | refine AW_exit ?_)) | ((with_reducible refine gS ?_); refine Es_s (T := Try.tab) rfl rfl rfl rfl ?_) | (((with_reducible refine gS ?_); apply Es_q); rfl; rfl; refine LStep_lookupSl (T := Try.tab) rfl rfl rfl rfl rfl rfl rfl rfl rfl hsk hff) | (((with_reducible refine gS ?_); apply Es_q); rfl; rfl; refine LStep_lenM (T := Try.tab) rfl rfl rfl rfl) | (with_reducible refine Es_nil ?_) | (with_reducible refine then_n ?_) | (with_reducible refine then_e ?_) | ((with_reducible refine block_e ?_ ?_); rfl))
  refine AW_forE (S := Nat) (fun k => k ≤ L.length ∧ ∀ x ∈ L.take k, rowG l day f t x = none) (fun k => [(48, .d (.sc (.int .i64 (k : Nat))))]) (fun _ => []) (fun k => L.length - k) 0 ⟨by omega, by simp⟩ (by (repeat' (first | exact trivial | exact rfl | (refine ⟨Or.inl rfl, ?_⟩) | (refine ⟨Or.inr rfl, ?_⟩) | (refine ⟨Or.inr trivial, ?_⟩) | (refine ⟨rfl, ?_⟩) | (refine ⟨?_, ?_⟩)))) (by (repeat' (first | exact trivial | exact rfl | (refine ⟨Or.inl rfl, ?_⟩) | (refine ⟨Or.inr rfl, ?_⟩) | (refine ⟨Or.inr trivial, ?_⟩) | (refine ⟨rfl, ?_⟩) | (refine ⟨?_, ?_⟩)))) ?_
  intro k ⟨hk, hf⟩
  by_cases hlt2 : k < L.length
  · obtain ⟨a, ha, _⟩ := drop_at hlt2
    obtain ⟨hy, hn⟩ := findS_at ha hf
    have haf := hnf a
    have hla := hnl a
    unfold rowG at hy hn
    generalize nb l day a = M at *
    unfold rowE at haf
    repeat' (first | ((with_reducible refine gA ?_); (first | refine AW_seq ?_ | refine AW_region ?_ | (refine AW_cond rfl (fun hc => ?_) (fun hc => ?_) <;> try (exfalso; simp only [cmpL] at hc; omega)) | refine AW_block ?_ | refine AW_skip ?_)) | ((with_reducible refine gS ?_); refine Es_s (T := Try.tab) rfl rfl rfl rfl ?_) | (((with_reducible refine gS ?_); apply Es_q); rfl; rfl; refine LStep_lookupSl (T := Try.tab) rfl rfl rfl rfl rfl rfl rfl rfl rfl hsk haf) | (((with_reducible refine gS ?_); apply Es_q); rfl; rfl; (first | refine LStep_lenM (T := Try.tab) rfl rfl rfl rfl | (refine LStep_indexM (T := Try.tab) (c := ?_) rfl rfl rfl rfl rfl rfl ?_; rotate_left; assumption))) | (with_reducible refine Es_nil ?_) | (with_reducible refine then_n ?_))
    refine AW_forE (S := Nat) (fun j => j ≤ M.length ∧ ∀ x ∈ M.take j, (!(decide (x = f)) && hasL l day x t) = false) (fun j => [(57, .d (.sc (.int .i64 (j : Nat))))]) (fun _ => []) (fun j => M.length - j) 0 ⟨by omega, by simp⟩ (by (repeat' (first | exact trivial | exact rfl | (refine ⟨Or.inl rfl, ?_⟩) | (refine ⟨Or.inr rfl, ?_⟩) | (refine ⟨Or.inr trivial, ?_⟩) | (refine ⟨rfl, ?_⟩) | (refine ⟨?_, ?_⟩)))) (by (repeat' (first | exact trivial | exact rfl | (refine ⟨Or.inl rfl, ?_⟩) | (refine ⟨Or.inr rfl, ?_⟩) | (refine ⟨Or.inr trivial, ?_⟩) | (refine ⟨rfl, ?_⟩) | (refine ⟨?_, ?_⟩)))) ?_
    intro j ⟨hj, hg⟩
    by_cases hlt3 : j < M.length
    · obtain ⟨b, hb, _⟩ := drop_at hlt3
      obtain ⟨jy, jn⟩ := find_at hb hg
      have clb := cl b
      by_cases hbf : b = f
      · subst hbf
        repeat' (first | ((with_reducible refine gA ?_); (first | refine AW_seq ?_ | refine AW_region ?_ | refine AW_condF rfl ?_ | (refine AW_cond rfl (fun hc => ?_) (fun hc => ?_) <;> try (exfalso; simp only [cmpL] at hc; omega)) | refine AW_block ?_ | refine AW_skip ?_)) | ((with_reducible refine gS ?_); refine Es_s (T := Try.tab) rfl rfl rfl rfl ?_) | (((with_reducible refine gS ?_); apply Es_q); rfl; (first | rfl | (refine w_tt ?_; assumption)); (first | refine LStep_simp (T := Try.tab) rfl rfl | (refine LStep_add rfl rfl rfl rfl ?_; (refine IntWalk.i64_in _ ?_; first | omega | (simp only [cmps] at *; omega))) | (refine LStep_pickF rfl rfl ?_ rfl rfl; assumption) | (refine LStep_indexM (T := Try.tab) (c := ?_) rfl rfl rfl rfl rfl rfl ?_; rotate_left; assumption))) | (refine Es_skip rfl ?_ rfl ?_; (first | rfl | (refine w_tf ?_; assumption) | (refine w_ft ?_; assumption))) | (refine Es_split rfl ?_ (fun _ => ?_) (fun _ => ?_); ((fail_if_success (refine und_t ?_; assumption)); (fail_if_success (refine und_f ?_; assumption)); exact trivial)) | (with_reducible refine Es_nil ?_) | (with_reducible refine then_n ?_) | (with_reducible refine block_n ?_))
        all_goals simp only [cmps] at *
        all_goals first
          | (exfalso; omega)
          | (exfalso; contradiction)
          | (refine ⟨j + 1, ?_, by omega, by (repeat' (first | exact trivial | exact rfl | (refine ⟨Or.inl rfl, ?_⟩) | (refine ⟨Or.inr rfl, ?_⟩) | (refine ⟨Or.inr trivial, ?_⟩) | (refine ⟨rfl, ?_⟩) | (refine ⟨?_, ?_⟩))), by (repeat' (first | exact trivial | exact rfl | (refine ⟨Or.inl rfl, ?_⟩) | (refine ⟨Or.inr rfl, ?_⟩) | (refine ⟨Or.inr trivial, ?_⟩) | (refine ⟨rfl, ?_⟩) | (refine ⟨?_, ?_⟩))), by (repeat' (first | exact trivial | exact rfl | (refine ⟨Or.inl rfl, ?_⟩) | (refine ⟨Or.inr rfl, ?_⟩) | (refine ⟨Or.inr trivial, ?_⟩) | (refine ⟨rfl, ?_⟩) | (refine ⟨?_, ?_⟩))), by (repeat' (first | exact trivial | exact rfl | (refine ⟨Or.inl rfl, ?_⟩) | (refine ⟨Or.inr rfl, ?_⟩) | (refine ⟨Or.inr trivial, ?_⟩) | (refine ⟨rfl, ?_⟩) | (refine ⟨?_, ?_⟩)))⟩; exact ⟨by omega, jn (by simp)⟩)
          | trace_state
      · cases hh : hasL l day b t with
        | true =>
          rw [hh] at clb
          have e := hy [f, a, b, t] (by rw [jy (by simp [hbf, hh])]; rfl)
          rw [show L.findSome? (rowG l day f t) = some [f, a, b, t] from e]
          repeat' (first | ((with_reducible refine gA ?_); (first | refine AW_seq ?_ | refine AW_region ?_ | refine AW_condT rfl ?_ | refine AW_condF rfl ?_ | (refine AW_cond rfl (fun hc => ?_) (fun hc => ?_) <;> try (exfalso; simp only [cmpL] at hc; omega)) | refine AW_block ?_ | refine AW_ret ?_ | refine AW_skip ?_)) | ((with_reducible refine gS ?_); refine Es_s (T := Try.tab) rfl rfl rfl rfl ?_) | (((with_reducible refine gS ?_); apply Es_xg); rfl; (first | rfl | (refine w_tt ?_; assumption)); refine LStep_callHN [(1000, 1000), (1001, 1001), (1002, 3), (1003, 5)] [] clb rfl rfl ⟨rfl, rfl, rfl, rfl, trivial⟩ rfl ⟨trivial, trivial, trivial, trivial, trivial⟩ rfl rfl; rfl) | (((with_reducible refine gS ?_); apply Es_q); rfl; (first | rfl | (refine w_tt ?_; assumption)); (first | refine LStep_simp (T := Try.tab) rfl rfl | (refine LStep_add rfl rfl rfl rfl ?_; (refine IntWalk.i64_in _ ?_; first | omega | (simp only [cmps] at *; omega))) | (refine LStep_pickT rfl rfl ?_ rfl rfl; assumption) | (refine LStep_pickF rfl rfl ?_ rfl rfl; assumption) | (refine LStep_indexM (T := Try.tab) (c := ?_) rfl rfl rfl rfl rfl rfl ?_; rotate_left; assumption) | (refine LStep_lit (T := Try.tab) rfl rfl rfl rfl rfl rfl rfl rfl ?_; (refine Nat.le_of_ble_eq_true ?_; rfl)))) | (refine Es_skip rfl ?_ rfl ?_; (first | rfl | (refine w_tf ?_; assumption) | (refine w_ft ?_; assumption))) | (refine Es_split rfl ?_ (fun _ => ?_) (fun _ => ?_); ((fail_if_success (refine und_t ?_; assumption)); (fail_if_success (refine und_f ?_; assumption)); exact trivial)) | (with_reducible refine Es_nil ?_) | (with_reducible refine then_n ?_) | (with_reducible refine then_r ?_) | (with_reducible refine block_n ?_) | (with_reducible refine block_r ?_) | ((with_reducible refine gR ?_); first | refine ret1 rfl ?_ | refine ret2 rfl rfl ?_ | refine ret0 ?_ | refine end1 rfl ?_ | refine end0 ?_))
          all_goals simp only [cmps] at *
          all_goals first
            | (exfalso; omega)
            | (exfalso; contradiction)
            | exact ⟨rfl, by (repeat' (first | exact trivial | exact rfl | (refine ⟨Or.inl rfl, ?_⟩) | (refine ⟨Or.inr rfl, ?_⟩) | (refine ⟨Or.inr trivial, ?_⟩) | (refine ⟨rfl, ?_⟩) | (refine ⟨?_, ?_⟩)))⟩
            | exact ⟨trivial, by (repeat' (first | exact trivial | exact rfl | (refine ⟨Or.inl rfl, ?_⟩) | (refine ⟨Or.inr rfl, ?_⟩) | (refine ⟨Or.inr trivial, ?_⟩) | (refine ⟨rfl, ?_⟩) | (refine ⟨?_, ?_⟩)))⟩
            | trace_state
        | false =>
          rw [hh] at clb
          repeat' (first | ((with_reducible refine gA ?_); (first | refine AW_seq ?_ | refine AW_region ?_ | refine AW_condF rfl ?_ | (refine AW_cond rfl (fun hc => ?_) (fun hc => ?_) <;> try (exfalso; simp only [cmpL] at hc; omega)) | refine AW_block ?_ | refine AW_skip ?_)) | ((with_reducible refine gS ?_); refine Es_s (T := Try.tab) rfl rfl rfl rfl ?_) | (((with_reducible refine gS ?_); apply Es_xg); rfl; (first | rfl | (refine w_tt ?_; assumption)); refine LStep_callHN [(1000, 1000), (1001, 1001), (1002, 3), (1003, 5)] [] clb rfl rfl ⟨rfl, rfl, rfl, rfl, trivial⟩ rfl ⟨trivial, trivial, trivial, trivial, trivial⟩ rfl rfl; rfl) | (((with_reducible refine gS ?_); apply Es_q); rfl; (first | rfl | (refine w_tt ?_; assumption)); (first | refine LStep_simp (T := Try.tab) rfl rfl | (refine LStep_add rfl rfl rfl rfl ?_; (refine IntWalk.i64_in _ ?_; first | omega | (simp only [cmps] at *; omega))) | (refine LStep_pickT rfl rfl ?_ rfl rfl; assumption) | (refine LStep_pickF rfl rfl ?_ rfl rfl; assumption) | (refine LStep_indexM (T := Try.tab) (c := ?_) rfl rfl rfl rfl rfl rfl ?_; rotate_left; assumption))) | (refine Es_skip rfl ?_ rfl ?_; (first | rfl | (refine w_tf ?_; assumption) | (refine w_ft ?_; assumption))) | (refine Es_split rfl ?_ (fun _ => ?_) (fun _ => ?_); ((fail_if_success (refine und_t ?_; assumption)); (fail_if_success (refine und_f ?_; assumption)); exact trivial)) | (with_reducible refine Es_nil ?_) | (with_reducible refine then_n ?_) | (with_reducible refine block_n ?_))
          all_goals simp only [cmps] at *
          all_goals first
            | (exfalso; omega)
            | (exfalso; contradiction)
            | (refine ⟨j + 1, ?_, by omega, by (repeat' (first | exact trivial | exact rfl | (refine ⟨Or.inl rfl, ?_⟩) | (refine ⟨Or.inr rfl, ?_⟩) | (refine ⟨Or.inr trivial, ?_⟩) | (refine ⟨rfl, ?_⟩) | (refine ⟨?_, ?_⟩))), by (repeat' (first | exact trivial | exact rfl | (refine ⟨Or.inl rfl, ?_⟩) | (refine ⟨Or.inr rfl, ?_⟩) | (refine ⟨Or.inr trivial, ?_⟩) | (refine ⟨rfl, ?_⟩) | (refine ⟨?_, ?_⟩))), by (repeat' (first | exact trivial | exact rfl | (refine ⟨Or.inl rfl, ?_⟩) | (refine ⟨Or.inr rfl, ?_⟩) | (refine ⟨Or.inr trivial, ?_⟩) | (refine ⟨rfl, ?_⟩) | (refine ⟨?_, ?_⟩))), by (repeat' (first | exact trivial | exact rfl | (refine ⟨Or.inl rfl, ?_⟩) | (refine ⟨Or.inr rfl, ?_⟩) | (refine ⟨Or.inr trivial, ?_⟩) | (refine ⟨rfl, ?_⟩) | (refine ⟨?_, ?_⟩)))⟩; exact ⟨by omega, jn (by simp [hh])⟩)
            | trace_state
    have hjM : j = M.length := by omega
    subst hjM
    have hn' := hn (by rw [find_end hg]; rfl)
    clear hg
    repeat' (first | ((with_reducible refine gA ?_); (first | refine AW_seq ?_ | refine AW_region ?_ | (refine AW_cond rfl (fun hc => ?_) (fun hc => ?_) <;> try (exfalso; simp only [cmpL] at hc; omega)) | refine AW_exit ?_)) | ((with_reducible refine gS ?_); refine Es_s (T := Try.tab) rfl rfl rfl rfl ?_) | (((with_reducible refine gS ?_); apply Es_q); rfl; rfl; (refine LStep_add rfl rfl rfl rfl ?_; (refine IntWalk.i64_in _ ?_; first | omega | (simp only [cmps] at *; omega)))) | (with_reducible refine Es_nil ?_) | (with_reducible refine then_n ?_) | (with_reducible refine then_e ?_) | (with_reducible refine block_n ?_) | ((with_reducible refine block_e ?_ ?_); rfl))
    all_goals simp only [cmps] at *
    all_goals first
      | (exfalso; omega)
      | (refine ⟨k + 1, ?_, by omega, by (repeat' (first | exact trivial | exact rfl | (refine ⟨Or.inl rfl, ?_⟩) | (refine ⟨Or.inr rfl, ?_⟩) | (refine ⟨Or.inr trivial, ?_⟩) | (refine ⟨rfl, ?_⟩) | (refine ⟨?_, ?_⟩))), by (repeat' (first | exact trivial | exact rfl | (refine ⟨Or.inl rfl, ?_⟩) | (refine ⟨Or.inr rfl, ?_⟩) | (refine ⟨Or.inr trivial, ?_⟩) | (refine ⟨rfl, ?_⟩) | (refine ⟨?_, ?_⟩))), by (repeat' (first | exact trivial | exact rfl | (refine ⟨Or.inl rfl, ?_⟩) | (refine ⟨Or.inr rfl, ?_⟩) | (refine ⟨Or.inr trivial, ?_⟩) | (refine ⟨rfl, ?_⟩) | (refine ⟨?_, ?_⟩))), by (repeat' (first | exact trivial | exact rfl | (refine ⟨Or.inl rfl, ?_⟩) | (refine ⟨Or.inr rfl, ?_⟩) | (refine ⟨Or.inr trivial, ?_⟩) | (refine ⟨rfl, ?_⟩) | (refine ⟨?_, ?_⟩)))⟩; exact ⟨by omega, hn'⟩)
      | trace_state
  have hkL : k = L.length := by omega
  subst hkL
  rw [findS_end hf]
  repeat' (first | ((with_reducible refine gRc ?_); refine AW_nilD 1 6 rfl ?_) | ((with_reducible refine gA ?_); (first | refine AW_seq ?_ | refine AW_region ?_ | (refine AW_condN rfl ?_ ?_; assumption) | refine AW_ret ?_ | refine AW_exit ?_)) | ((with_reducible refine gS ?_); refine Es_s (T := Try.tab) rfl rfl rfl rfl ?_) | (with_reducible refine Es_nil ?_) | (with_reducible refine then_n ?_) | (with_reducible refine then_e ?_) | ((with_reducible refine block_e ?_ ?_); rfl) | ((with_reducible refine gR ?_); first | refine ret1 rfl ?_ | refine ret2 rfl rfl ?_ | refine ret0 ?_ | refine end1 rfl ?_ | refine end0 ?_))
  all_goals simp only [cmps] at *
  all_goals first
    | (exfalso; omega)
    | exact ⟨rfl, by (repeat' (first | exact trivial | exact rfl | (refine ⟨Or.inl rfl, ?_⟩) | (refine ⟨Or.inr rfl, ?_⟩) | (refine ⟨Or.inr trivial, ?_⟩) | (refine ⟨rfl, ?_⟩) | (refine ⟨?_, ?_⟩)))⟩
    | exact ⟨trivial, by (repeat' (first | exact trivial | exact rfl | (refine ⟨Or.inl rfl, ?_⟩) | (refine ⟨Or.inr rfl, ?_⟩) | (refine ⟨Or.inr trivial, ?_⟩) | (refine ⟨rfl, ?_⟩) | (refine ⟨?_, ?_⟩)))⟩
    | trace_state
theorem row_ac (l : List RP) (day : Int) (f t : ByteArray) (hl : l.length ≤ 4096) : AC Try.prog 45 [.agg [.mp 1000, .mp 1001], .d (.sc (.string f)), .d (.sc (.string t))] (hCh l day) [1000, 1001]
    (fun r h' => r = rowS (rowP l day f t) ∧ SubH (hCh l day) h') := AC.unNb fun w hw => rowM_ac l day f t hl w hw
end Go.Proofs.Ytofdnkgieigncaa
