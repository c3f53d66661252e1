/- The layer 'SL': a map is written; calls in the caller's own names. -/
import Derived.Test.YtglkilmflohfoaaDoorSd
namespace Go.SL
open Go.RowKit Go.MapKept

def putObj (ents : Array MapEntry) (clock : Nat) (k v : Value) : Option (Nat × Value) → Obj
  | some (j, _) => .map (ents.modify j fun e => { e with key := k, val := v }) clock
  | none => .map (ents.push { key := k, val := v, born := clock }) (clock + 1)
section
variable {P : Program} {O : Org} {T : Tab P} {Q : Exit → Env → Hp → Prop} {env : Env} {h : Hp} {all rest : List Oper} {o : Oper} {rs : List Rc}
variable {t kt et id : Nat} {x i : Operand} {es : List (Value × AV)} {dk : KK} {k : Value} {c : AV}

theorem ObjRep.mapPut {w w' : World} {X X' : Nat → Prop} {G : Ctx} {b clock : Nat} {ents : Array MapEntry} {v : Value} {q : Option (Nat × Value)} (e1 : G.m id = .map (some b)) (e3 : ents.size = es.length)
    (e4 : ∀ (i : Nat) (k : Value) (c : AV) (e : MapEntry), es[i]? = some (k, c) → ents[i]? = some e → e.key = k ∧ Rep w X G c e.val ∧ noid c = true)
    (e5 : ∀ (i j : Nat) (e e' : MapEntry), ents[i]? = some e → ents[j]? = some e' → e.born = e'.born → i = j) (e6 : ∀ e ∈ ents.toList, e.born < clock)
    (hr : ∀ {z : AV} {u : Value}, Rep w X G z u → Rep w' X' G z u) (hc : Rep w X G c v) (hn : noid c = true)
    (hm : match mat k es 0 with
      | some (j, c) => ∃ e, ents[j]? = some e ∧ es[j]? = some (k, c) ∧ q = some (j, e.val) ∧ e.key = k ∧ Rep w X G c e.val ∧ noid c = true
      | none => q = none)
    (hb : w'.heap[b]? = some (putObj ents clock k v q)) :
    ObjRep w' X' G id (.map kt et (mput k c es) none) := by
  unfold mput
  cases hmm : mat k es 0 with
  | none =>
    rw [hmm] at hm
    subst hm
    refine ⟨b, _, _, e1, hb, by simp [e3], fun n k' c' e h1 h2 => ?_, fun n m e e' h1 h2 h3 => ?_, fun e he => ?_, trivial⟩
    · simp only at h1
      rcases Nat.lt_trichotomy n es.length with hlt | he | hgt
      · rw [List.getElem?_append_left hlt] at h1
        rw [Array.getElem?_push_lt (by omega)] at h2
        have := e4 n k' c' e h1 (by rw [← h2, Array.getElem?_eq_getElem]) 
        exact ⟨this.1, hr this.2.1, this.2.2⟩
      · subst he
        rw [List.getElem?_append_right (Nat.le_refl _)] at h1
        simp only [Nat.sub_self, List.getElem?_cons_zero, Option.some.injEq, Prod.mk.injEq] at h1
        obtain ⟨rfl, rfl⟩ := h1
        rw [← e3, Array.getElem?_push_size] at h2
        cases h2
        exact ⟨rfl, hr hc, hn⟩
      · rw [List.getElem?_eq_none (by simp; omega)] at h1; cases h1
    · have key : ∀ (n : Nat) (e : MapEntry), (ents.push { key := k, val := v, born := clock })[n]? = some e → (ents[n]? = some e ∧ e.born < clock) ∨ (n = ents.size ∧ e.born = clock) := by
        intro n e hn
        rcases Nat.lt_trichotomy n ents.size with hlt | he | hgt
        · rw [Array.getElem?_push_lt hlt] at hn
          have hn' : ents[n]? = some e := by rw [← hn, Array.getElem?_eq_getElem]
          exact .inl ⟨hn', e6 e (List.mem_of_getElem? (by rw [Array.getElem?_toList]; exact hn'))⟩
        · subst he
          rw [Array.getElem?_push_size] at hn
          cases hn
          exact .inr ⟨rfl, rfl⟩
        · rw [Array.getElem?_eq_none (by simp; omega)] at hn; cases hn
      rcases key n e h1 with ⟨a1, a2⟩ | ⟨a1, a2⟩ <;> rcases key m e' h2 with ⟨b1, b2⟩ | ⟨b1, b2⟩
      · exact e5 n m e e' a1 b1 h3
      · omega
      · omega
      · rw [a1, b1]
    · rw [Array.toList_push, List.mem_append] at he
      rcases he with he | he
      · exact Nat.lt_succ_of_lt (e6 e he)
      · simp at he; subst he; exact Nat.lt_succ_self _
  | some p =>
    obtain ⟨j, c0⟩ := p
    rw [hmm] at hm
    obtain ⟨ej, g1, g2, rfl, g4, _⟩ := hm
    have hget : ∀ (n : Nat) (e : MapEntry), (ents.modify j fun e => { e with key := k, val := v })[n]? = some e → ∃ e0, ents[n]? = some e0 ∧ e = if j = n then { e0 with key := k, val := v } else e0 := by
      intro n e hn
      rw [Array.getElem?_modify] at hn
      by_cases hj : j = n
      · rw [if_pos hj, Option.map_eq_some_iff] at hn
        obtain ⟨e0, h1, h2⟩ := hn
        exact ⟨e0, h1, by rw [if_pos hj]; exact h2.symm⟩
      · rw [if_neg hj] at hn
        exact ⟨e, hn, by rw [if_neg hj]⟩
    refine ⟨b, _, _, e1, hb, by simp [e3], fun n k' c' e h1 h2 => ?_, fun n m e e' h1 h2 h3 => ?_, fun e he => ?_, trivial⟩
    · obtain ⟨e0, h3, h4⟩ := hget n e h2
      simp only at h1
      by_cases hj : j = n
      · subst hj
        rw [if_pos rfl] at h4
        have hlt : j < es.length := (List.getElem?_eq_some_iff.1 g2).1
        rw [List.getElem?_set_self hlt] at h1
        cases h1
        rw [h4]
        exact ⟨rfl, hr hc, hn⟩
      · rw [if_neg hj] at h4
        rw [List.getElem?_set_ne hj] at h1
        subst h4
        have := e4 n k' c' e h1 h3
        exact ⟨this.1, hr this.2.1, this.2.2⟩
    · obtain ⟨a0, a1, a2⟩ := hget n e h1
      obtain ⟨b0, b1, b2⟩ := hget m e' h2
      have f1 : e.born = a0.born := by rw [a2]; split <;> rfl
      have f2 : e'.born = b0.born := by rw [b2]; split <;> rfl
      exact e5 n m a0 b0 a1 b1 (by rw [← f1, ← f2]; exact h3)
    · obtain ⟨n, hn⟩ := List.getElem?_of_mem he
      rw [Array.getElem?_toList] at hn
      obtain ⟨a0, a1, a2⟩ := hget n e hn
      have f1 : e.born = a0.born := by rw [a2]; split <;> rfl
      rw [f1]
      exact e6 a0 (List.mem_of_getElem? (by rw [Array.getElem?_toList]; exact a1))

theorem LStep_mapUpdate {y : Operand} {kt' et' : Nat} (ho : o.op = .mapUpdate t x i y) (hd : o.dst = none) (hT : T.desc t = some (.map kt et)) (hK : T.keyD kt = some dk) (hx : evalA env x = .mp id) (hi : keyV (evalA env i) = some k) (hy : evalA env y = c) (hk : keyB dk k = true)
    (hh : hget h id = some (.map kt' et' es none)) (hb : ∀ p ∈ es, keyB dk p.1 = true) (hn : noid c = true) : LStep P O o env h [id] [] (.tup []) [(id, some (.map kt' et' (mput k c es) none))] := by
  intro env' h' he hTs _ a w G r K Q hKK
  have h1 := evalA_rep r.env x
  have h2 := evalA_rep r.env i
  have h3 := evalA_rep r.env y
  rw [he x (by simp [ho, Op.operands]), hx] at h1
  rw [he i (by simp [ho, Op.operands])] at h2
  replace h2 := keyV_rep hi h2
  rw [he y (by simp [ho, Op.operands]), hy] at h3
  have hh' := (hTs id (by simp)).trans hh
  obtain ⟨b, ents, clock, e1, e2, q, f1, f2⟩ := map_at r hh' hK hk hb
  obtain ⟨b0, ents0, clock0, k1, k2, k3, k4, k5, k6, _⟩ := r.obj id _ hh'
  obtain rfl : b = b0 := by rw [e1] at k1; cases k1; rfl
  rw [e2] at k2
  cases k2
  generalize hv : a.eval x = xv at h1
  cases h1 with
  | mp _ b' hb' =>
    obtain rfl : b = b' := by rw [e1] at hb'; cases hb'; rfl
    generalize hob : putObj ents clock k (a.eval y) q = ob
    have hs := heap_set (o' := ob) e2
    have hrun : (execOp a.eval o).run P w = .ok .skip { w with heap := w.heap.setIfInBounds b ob } := by
      have hfin : (Instr.mapUpdate t (.map (some b)) k (a.eval y)).run P w = .ok () { w with heap := w.heap.setIfInBounds b ob } := by
        cases hm : mat k es 0 with
        | none =>
          rw [hm] at f2
          subst f2
          rw [← hob]
          simp [putObj, Instr.mapUpdate, run_underlying (T.desc_ok hT), Go.MapKept.run_getObj_map e2, chk_run hK hk, f1, run_setObj_map _ e2, Result.andThen]
        | some p =>
          obtain ⟨j, c0⟩ := p
          rw [hm] at f2
          obtain ⟨e, g1, g2, rfl, g4, _⟩ := f2
          rw [← hob]
          simp [putObj, Instr.mapUpdate, run_underlying (T.desc_ok hT), Go.MapKept.run_getObj_map e2, chk_run hK hk, f1, g1, g4, stays_run hk, run_setObj_map _ e2, Result.andThen]
      simp [execOp, ho, hv, h2, hfin]
    have hext : Ext (fun n => n = b) w { w with heap := w.heap.setIfInBounds b ob } := ⟨rfl, rfl, rfl, by simp, fun n _ hne => hs.2 n hne, Nat.le_refl _⟩
    have hown : XX O h' G b := .inr ⟨id, _, hh', id, List.mem_cons_self, by rw [e1]; rfl⟩
    have hX : ∀ n, n < w.heap.size → XX O ((id, some (.map kt' et' (mput k c es) none)) :: h') G n → XX O h' G n := fun n _ hc => Rel.turnX (o' := .map kt' et' (mput k c es) none) hh' rfl hc
    have hr : ∀ {z : AV} {u : Value}, Rep w (XX O h' G) G z u → Rep { w with heap := w.heap.setIfInBounds b ob } (XX O ((id, some (.map kt' et' (mput k c es) none)) :: h') G) G z u :=
      fun hz => hz.ext hext (fun n _ hc => by subst hc; exact hown) hX (GStep.refl G)
    refine wp_skipped hrun (hKK undef _ G ?_)
    rw [hd]
    refine r.turn hh' hext (fun n _ hc => ⟨id, List.mem_cons_self, by subst hc; rw [e1]; rfl⟩) (GStep.refl G) (fun _ _ => ⟨rfl, rfl⟩) (fun _ => rfl) rfl (fun _ h _ => h) ?_ (fun _ h => .inr h) (by simp [names])
    exact ObjRep.mapPut e1 k3 k4 k5 k6 hr h3 hn f2 (by rw [hob]; exact hs.1)

theorem noid_only : ∀ {x : AV}, noid x = true → onlyN [] x = true
  | .any, _ | .d _, _ | .ro _, _ => rfl
  | .agg cs, h => noid_onlyL cs h
  | .tup cs, h => noid_onlyL cs h
  | .roa cs, h => noid_onlyL cs h
  | .fn _ cs, h => noid_onlyL cs h
  | .bnd _ cs, h => noid_onlyL cs h
  | .sla _ es, h => noid_onlyLL es h
  | .ptr _ _, h | .own _ _, h | .eptr _ _ _ _ _, h | .part _ _ _ _ _, h | .mp _, h | .it _, h => by cases h
where
  noid_onlyL : ∀ (cs : List AV), noid.noidL cs = true → onlyN.onlyL [] cs = true
    | [], _ => rfl
    | c :: r, h => by
      unfold noid.noidL at h
      simp only [Bool.and_eq_true] at h
      show (onlyN [] c && onlyN.onlyL [] r) = true
      rw [noid_only h.1, noid_onlyL r h.2]; rfl
  noid_onlyLL : ∀ (cs : List (List AV)), noid.noidLL cs = true → onlyN.onlyLL [] cs = true
    | [], _ => rfl
    | c :: r, h => by
      unfold noid.noidLL at h
      simp only [Bool.and_eq_true] at h
      show (onlyN.onlyL [] c && onlyN.onlyLL [] r) = true
      rw [noid_only.noid_onlyL c h.1, noid_onlyLL r h.2]; rfl
/-- A call in the caller's own names, of objects that stay as they are. -/
def Kp (hc h : Hp) : Prop := ∀ id o, hget hc id = some o → hget h id = some o
def Plain (hc : Hp) (ids : List Nat) : Prop := ∀ id o, hget hc id = some o → (names o = [] ∧ nonx o = true) ∧ id ∈ ids ∧ ∀ j, freshO j o = false → ∃ o1, hget hc j = some o1
theorem LStep_callI {f : FuncId} {args : List AV} {hc : Hp} {ids : List Nat} {rv : AV} (C : AC P f args hc ids (fun r h' => r = rv ∧ Kp hc h')) (ha : callA env o.op = some (f, args)) (hd : dstOk o.dst O.nt = true) (hin : Kp hc h) (hp : Plain hc ids)
    (hn : noid rv = true) : LStep P O o env h (keysH hc) [] rv [] := by
  intro env' h' he hT _ a w G r K Q hK
  obtain ⟨vs, hrun, hlen, hrep⟩ := run_callA ha C.1 he r
  have H : Handed O env' h' G hc (fun i => i) := by
    refine ⟨fun id o ho => ?_, fun id o id' o' h1 h2 h3 => h3, fun id o ho => (hp id o ho).1⟩
    rw [hT _ (mem_keysH ho).1, renO_id]
    exact hin id o ho
  unfold Oper.wp
  rw [hrun]
  show Calls P f vs.toArray w _
  refine (C.atH H r hlen (fun i x v hx hv => by rw [ren_id]; exact hrep i _ v hx hv)).mono ?_
  rintro e w' ⟨v, x, h'', G', rfl, r', hxr, rfl, hsub⟩
  have L : Left O env' h' G G hc h'' h' G' ids (fun i => i) (fun i => i) (fun _ => False) (fun _ => False) := by
    refine ⟨fun _ _ _ => rfl, fun id o ho => ⟨o, hsub id o ho, .inl ⟨(hp id o ho).2.1, ?_⟩, fun h => h.elim⟩, fun c hc' => hc'.elim, fun _ _ h => h.elim, fun _ h => h.elim, fun _ _ _ => ⟨rfl, rfl⟩, fun _ _ _ h => h.elim, fun _ _ _ h => h.elim, fun i o1 ho => ?_⟩
    · cases o <;> first | trivial | rfl
    · cases hg : hget hc i with
      | none => exact .inr ⟨ho, fun id o2 h1 e => by subst e; rw [hg] at h1; cases h1⟩
      | some o2 =>
        have e1 : hget h' i = some o2 := by
          have := H.hin i o2 hg
          rw [renO_id] at this
          exact this
        rw [e1] at ho
        cases ho
        exact .inl ⟨i, o1, .inl ⟨o1, hg⟩, hsub i o1 hg, rfl, (renO_id o1).symm, (hp i o1 hg).1, fun j hj => .inl ((hp i o1 hg).2.2 j hj)⟩
  have hx := L.res H r r' (x := x) (fun j hj => by
    exfalso
    have : ∀ {x : AV}, noid x = true → fresh j x = true := by
      intro x hx
      exact only_fresh (L := []) (by simp) (noid_only hx)
    rw [this hn] at hj; cases hj) hxr
  rw [ren_id] at hx
  exact hK v w' G ((L.rel H r r').put hd hx)
end
end Go.SL
/- The layer 'SL': operations that turn objects, in a region; slices of what is no data. -/
namespace Go.SL
open Go.RowKit

section
variable {P : Program} {O : Org} {T : Tab P} {Q : Exit → Env → Hp → Prop} {env : Env} {h : Hp} {all rest : List Oper} {o : Oper} {rs : List Rc} {e0 : Env} {h0 : Hp}

def newB (Ns : List Nat) (env : Env) (h : Hp) : Bool := Ns.all fun id => freshE id env && freshH id h
theorem newB_at {Ns : List Nat} (hf : newB Ns env h = true) : ∀ id ∈ Ns, freshAt id env h := by
  intro id hid
  unfold newB at hf
  rw [List.all_eq_true] at hf
  have := hf id hid
  simp only [Bool.and_eq_true] at this
  exact freshAt_of this.1 this.2

theorem Es_xs {t i : Nat} {ob : Option AObj} {av : AV} {Ts Ns : List Nat} (hd : o.dst = some t) (hw : wantedA all env o = some true) (hs : LStep P O o env h Ts Ns av [(i, ob)]) (hf : newB Ns env h = true)
    (K : EvS P O all rest ((t, av) :: env) ((i, ob) :: h) Q) : EvS P O all (o :: rest) env h Q :=
  Es_step0 hw hs (newB_at hf) (by rw [hd]; exact K)
theorem Ed_xs {t i : Nat} {ob : Option AObj} {av : AV} {Ts Ns : List Nat} (hd : o.dst = some t) (hw : wantedA all env o = some true) (hs : LStep P O o env h Ts Ns av [(i, ob)]) (hf : newB Ns env h = true)
    (K : EvD P O e0 h0 all rest ((t, av) :: env) ((i, ob) :: h) (⟨some t, av, Ts, Ns, [(i, ob)]⟩ :: rs) Q) : EvD P O e0 h0 all (o :: rest) env h rs Q :=
  Ed_step0 hw hs (newB_at hf) (by rw [hd]; exact K)
theorem Es_xn {i : Nat} {ob : Option AObj} {av : AV} {Ts Ns : List Nat} (hd : o.dst = none) (hw : wantedA all env o = some true) (hs : LStep P O o env h Ts Ns av [(i, ob)]) (hf : newB Ns env h = true)
    (K : EvS P O all rest env ((i, ob) :: h) Q) : EvS P O all (o :: rest) env h Q :=
  Es_step0 hw hs (newB_at hf) (by rw [hd]; exact K)
theorem Es_xg {t : Nat} {u : Hp} {av : AV} {Ts Ns : List Nat} (hd : o.dst = some t) (hw : wantedA all env o = some true) (hs : LStep P O o env h Ts Ns av u) (hf : newB Ns env h = true)
    (K : EvS P O all rest ((t, av) :: env) (u ++ h) Q) : EvS P O all (o :: rest) env h Q :=
  Es_step0 hw hs (newB_at hf) (by rw [hd]; exact K)
theorem Ed_xg {t : Nat} {u : Hp} {av : AV} {Ts Ns : List Nat} (hd : o.dst = some t) (hw : wantedA all env o = some true) (hs : LStep P O o env h Ts Ns av u) (hf : newB Ns env h = true)
    (K : EvD P O e0 h0 all rest ((t, av) :: env) (u ++ h) (⟨some t, av, Ts, Ns, u⟩ :: rs) Q) : EvD P O e0 h0 all (o :: rest) env h rs Q :=
  Ed_step0 hw hs (newB_at hf) (by rw [hd]; exact K)

end
end Go.SL
