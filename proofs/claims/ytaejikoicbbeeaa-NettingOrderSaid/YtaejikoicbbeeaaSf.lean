/- The layer 'SL': a map is written; calls in the caller's own names. -/
import Derived.Test.YtaejikoicbbeeaaSd
namespace Go.SL
open Go.RowKit Go.MapKept

section
variable {P : Program} {O : Org} {T : Tab P} {Q : Exit → Env → Hp → Prop} {env : Env} {h : Hp} {all rest : List Oper} {o : Oper} {rs : List Rc}
variable {t kt et id : Nat} {x i : Operand} {es : List (Value × AV)} {dk : KK} {k : Value} {c : AV}

theorem noid_only : ∀ {x : AV}, noid x = true → onlyN [] x = true
  | .any, _ | .d _, _ | .ro _, _ => rfl
  | .agg cs, h => noid_onlyL cs h
  | .tup cs, h => noid_onlyL cs h
  | .roa cs, h => noid_onlyL cs h
  | .fn _ cs, h => noid_onlyL cs h
  | .sla _ es, h => noid_onlyLL es h
  | .ptr _ _, h | .own _ _, h | .eptr _ _ _ _ _, h | .part _ _ _ _ _, h | .mp _, h | .it _, h => by cases h
where
  noid_onlyL : ∀ (cs : List AV), noid.noidL cs = true → onlyN.onlyL [] cs = true
    | [], _ => rfl
    | c :: r, h => by
      unfold noid.noidL at h
      simp only [Bool.and_eq_true] at h
      show (onlyN [] c && onlyN.onlyL [] r) = true
      rw [noid_only h.1, noid_onlyL r h.2]; rfl
  noid_onlyLL : ∀ (cs : List (List AV)), noid.noidLL cs = true → onlyN.onlyLL [] cs = true
    | [], _ => rfl
    | c :: r, h => by
      unfold noid.noidLL at h
      simp only [Bool.and_eq_true] at h
      show (onlyN.onlyL [] c && onlyN.onlyLL [] r) = true
      rw [noid_only.noid_onlyL c h.1, noid_onlyLL r h.2]; rfl
/-- A call in the caller's own names, of objects that stay as they are. -/
def Kp (hc h : Hp) : Prop := ∀ id o, hget hc id = some o → hget h id = some o
def Plain (hc : Hp) (ids : List Nat) : Prop := ∀ id o, hget hc id = some o → (names o = [] ∧ nonx o = true) ∧ id ∈ ids ∧ ∀ j, freshO j o = false → ∃ o1, hget hc j = some o1
theorem LStep_callI {f : FuncId} {args : List AV} {hc : Hp} {ids : List Nat} {rv : AV} (C : AC P f args hc ids (fun r h' => r = rv ∧ Kp hc h')) (ha : callA env o.op = some (f, args)) (hd : dstOk o.dst O.nt = true) (hin : Kp hc h) (hp : Plain hc ids)
    (hn : noid rv = true) : LStep P O o env h (keysH hc) [] rv [] := by
  intro env' h' he hT _ a w G r K Q hK
  obtain ⟨vs, hrun, hlen, hrep⟩ := run_callA ha C.1 he r
  have H : Handed O env' h' G hc (fun i => i) := by
    refine ⟨fun id o ho => ?_, fun id o id' o' h1 h2 h3 => h3, fun id o ho => (hp id o ho).1⟩
    rw [hT _ (mem_keysH ho).1, renO_id]
    exact hin id o ho
  unfold Oper.wp
  rw [hrun]
  show Calls P f vs.toArray w _
  refine (C.atH H r hlen (fun i x v hx hv => by rw [ren_id]; exact hrep i _ v hx hv)).mono ?_
  rintro e w' ⟨v, x, h'', G', rfl, r', hxr, rfl, hsub⟩
  have L : Left O env' h' G G hc h'' h' G' ids (fun i => i) (fun i => i) (fun _ => False) (fun _ => False) := by
    refine ⟨fun _ _ _ => rfl, fun id o ho => ⟨o, hsub id o ho, .inl ⟨(hp id o ho).2.1, ?_⟩, fun h => h.elim⟩, fun c hc' => hc'.elim, fun _ _ h => h.elim, fun _ h => h.elim, fun _ _ _ => ⟨rfl, rfl⟩, fun _ _ _ h => h.elim, fun _ _ _ h => h.elim, fun i o1 ho => ?_⟩
    · cases o <;> first | trivial | rfl
    · cases hg : hget hc i with
      | none => exact .inr ⟨ho, fun id o2 h1 e => by subst e; rw [hg] at h1; cases h1⟩
      | some o2 =>
        have e1 : hget h' i = some o2 := by
          have := H.hin i o2 hg
          rw [renO_id] at this
          exact this
        rw [e1] at ho
        cases ho
        exact .inl ⟨i, o1, .inl ⟨o1, hg⟩, hsub i o1 hg, rfl, (renO_id o1).symm, (hp i o1 hg).1, fun j hj => .inl ((hp i o1 hg).2.2 j hj)⟩
  have hx := L.res H r r' (x := x) (fun j hj => by
    exfalso
    have : ∀ {x : AV}, noid x = true → fresh j x = true := by
      intro x hx
      exact only_fresh (L := []) (by simp) (noid_only hx)
    rw [this hn] at hj; cases hj) hxr
  rw [ren_id] at hx
  exact hK v w' G ((L.rel H r r').put hd hx)
end
end Go.SL
/- The layer 'SL': operations that turn objects, in a region; slices of what is no data. -/
namespace Go.SL
open Go.RowKit

section
variable {P : Program} {O : Org} {T : Tab P} {Q : Exit → Env → Hp → Prop} {env : Env} {h : Hp} {all rest : List Oper} {o : Oper} {rs : List Rc} {e0 : Env} {h0 : Hp}

def newB (Ns : List Nat) (env : Env) (h : Hp) : Bool := Ns.all fun id => freshE id env && freshH id h
theorem newB_at {Ns : List Nat} (hf : newB Ns env h = true) : ∀ id ∈ Ns, freshAt id env h := by
  intro id hid
  unfold newB at hf
  rw [List.all_eq_true] at hf
  have := hf id hid
  simp only [Bool.and_eq_true] at this
  exact freshAt_of this.1 this.2

theorem Es_xs {t i : Nat} {ob : Option AObj} {av : AV} {Ts Ns : List Nat} (hd : o.dst = some t) (hw : wantedA all env o = some true) (hs : LStep P O o env h Ts Ns av [(i, ob)]) (hf : newB Ns env h = true)
    (K : EvS P O all rest ((t, av) :: env) ((i, ob) :: h) Q) : EvS P O all (o :: rest) env h Q :=
  Es_step0 hw hs (newB_at hf) (by rw [hd]; exact K)
theorem Ed_xs {t i : Nat} {ob : Option AObj} {av : AV} {Ts Ns : List Nat} (hd : o.dst = some t) (hw : wantedA all env o = some true) (hs : LStep P O o env h Ts Ns av [(i, ob)]) (hf : newB Ns env h = true)
    (K : EvD P O e0 h0 all rest ((t, av) :: env) ((i, ob) :: h) (⟨some t, av, Ts, Ns, [(i, ob)]⟩ :: rs) Q) : EvD P O e0 h0 all (o :: rest) env h rs Q :=
  Ed_step0 hw hs (newB_at hf) (by rw [hd]; exact K)
theorem Es_xn {i : Nat} {ob : Option AObj} {av : AV} {Ts Ns : List Nat} (hd : o.dst = none) (hw : wantedA all env o = some true) (hs : LStep P O o env h Ts Ns av [(i, ob)]) (hf : newB Ns env h = true)
    (K : EvS P O all rest env ((i, ob) :: h) Q) : EvS P O all (o :: rest) env h Q :=
  Es_step0 hw hs (newB_at hf) (by rw [hd]; exact K)
theorem Ed_xn {i : Nat} {ob : Option AObj} {av : AV} {Ts Ns : List Nat} (hd : o.dst = none) (hw : wantedA all env o = some true) (hs : LStep P O o env h Ts Ns av [(i, ob)]) (hf : newB Ns env h = true)
    (K : EvD P O e0 h0 all rest env ((i, ob) :: h) (⟨none, av, Ts, Ns, [(i, ob)]⟩ :: rs) Q) : EvD P O e0 h0 all (o :: rest) env h rs Q :=
  Ed_step0 hw hs (newB_at hf) (by rw [hd]; exact K)
theorem Es_xg {t : Nat} {u : Hp} {av : AV} {Ts Ns : List Nat} (hd : o.dst = some t) (hw : wantedA all env o = some true) (hs : LStep P O o env h Ts Ns av u) (hf : newB Ns env h = true)
    (K : EvS P O all rest ((t, av) :: env) (u ++ h) Q) : EvS P O all (o :: rest) env h Q :=
  Es_step0 hw hs (newB_at hf) (by rw [hd]; exact K)
theorem Ed_xg {t : Nat} {u : Hp} {av : AV} {Ts Ns : List Nat} (hd : o.dst = some t) (hw : wantedA all env o = some true) (hs : LStep P O o env h Ts Ns av u) (hf : newB Ns env h = true)
    (K : EvD P O e0 h0 all rest ((t, av) :: env) (u ++ h) (⟨some t, av, Ts, Ns, u⟩ :: rs) Q) : EvD P O e0 h0 all (o :: rest) env h rs Q :=
  Ed_step0 hw hs (newB_at hf) (by rw [hd]; exact K)

end
end Go.SL
