/- The layer 'SL': operations that turn objects, in a region; slices of what is no data. -/
import Derived.Test.YtnfgkccocknloaaSe
namespace Go.SL
open Go.RowKit

section
variable {P : Program} {O : Org} {T : Tab P} {Q : Exit → Env → Hp → Prop} {env : Env} {h : Hp} {all rest : List Oper} {o : Oper} {rs : List Rc} {e0 : Env} {h0 : Hp}

def newB (Ns : List Nat) (env : Env) (h : Hp) : Bool := Ns.all fun id => freshE id env && freshH id h
theorem newB_at {Ns : List Nat} (hf : newB Ns env h = true) : ∀ id ∈ Ns, freshAt id env h := by
  intro id hid
  unfold newB at hf
  rw [List.all_eq_true] at hf
  have := hf id hid
  simp only [Bool.and_eq_true] at this
  exact freshAt_of this.1 this.2

theorem Es_xs {t i : Nat} {ob : Option AObj} {av : AV} {Ts Ns : List Nat} (hd : o.dst = some t) (hw : wantedA all env o = some true) (hs : LStep P O o env h Ts Ns av [(i, ob)]) (hf : newB Ns env h = true)
    (K : EvS P O all rest ((t, av) :: env) ((i, ob) :: h) Q) : EvS P O all (o :: rest) env h Q :=
  Es_step0 hw hs (newB_at hf) (by rw [hd]; exact K)
theorem Ed_xs {t i : Nat} {ob : Option AObj} {av : AV} {Ts Ns : List Nat} (hd : o.dst = some t) (hw : wantedA all env o = some true) (hs : LStep P O o env h Ts Ns av [(i, ob)]) (hf : newB Ns env h = true)
    (K : EvD P O e0 h0 all rest ((t, av) :: env) ((i, ob) :: h) (⟨some t, av, Ts, Ns, [(i, ob)]⟩ :: rs) Q) : EvD P O e0 h0 all (o :: rest) env h rs Q :=
  Ed_step0 hw hs (newB_at hf) (by rw [hd]; exact K)
theorem Es_xn {i : Nat} {ob : Option AObj} {av : AV} {Ts Ns : List Nat} (hd : o.dst = none) (hw : wantedA all env o = some true) (hs : LStep P O o env h Ts Ns av [(i, ob)]) (hf : newB Ns env h = true)
    (K : EvS P O all rest env ((i, ob) :: h) Q) : EvS P O all (o :: rest) env h Q :=
  Es_step0 hw hs (newB_at hf) (by rw [hd]; exact K)
theorem Ed_xn {i : Nat} {ob : Option AObj} {av : AV} {Ts Ns : List Nat} (hd : o.dst = none) (hw : wantedA all env o = some true) (hs : LStep P O o env h Ts Ns av [(i, ob)]) (hf : newB Ns env h = true)
    (K : EvD P O e0 h0 all rest env ((i, ob) :: h) (⟨none, av, Ts, Ns, [(i, ob)]⟩ :: rs) Q) : EvD P O e0 h0 all (o :: rest) env h rs Q :=
  Ed_step0 hw hs (newB_at hf) (by rw [hd]; exact K)
theorem Es_xg {t : Nat} {u : Hp} {av : AV} {Ts Ns : List Nat} (hd : o.dst = some t) (hw : wantedA all env o = some true) (hs : LStep P O o env h Ts Ns av u) (hf : newB Ns env h = true)
    (K : EvS P O all rest ((t, av) :: env) (u ++ h) Q) : EvS P O all (o :: rest) env h Q :=
  Es_step0 hw hs (newB_at hf) (by rw [hd]; exact K)
theorem Ed_xg {t : Nat} {u : Hp} {av : AV} {Ts Ns : List Nat} (hd : o.dst = some t) (hw : wantedA all env o = some true) (hs : LStep P O o env h Ts Ns av u) (hf : newB Ns env h = true)
    (K : EvD P O e0 h0 all rest ((t, av) :: env) (u ++ h) (⟨some t, av, Ts, Ns, u⟩ :: rs) Q) : EvD P O e0 h0 all (o :: rest) env h rs Q :=
  Ed_step0 hw hs (newB_at hf) (by rw [hd]; exact K)

/-- a literal of what is no data (functions ..), only read -/
theorem LStep_litA {t e sz len : Nat} {parts : Array (Nat × Operand)} {es : List (List AV)} {zs : List AV} (ho : o.op = .buildSlice t len parts) (hT : T.desc t = some (.slice e)) (hS : T.size e = some sz) (hz : T.zeroC e = some zs)
    (hr : rowsOf sz env 0 parts.toList = some es) (hlen : parts.toList.length = len) (hd : dstOk o.dst O.nt = true) (hsmall : len * sz ≤ 16777216) : LStep P O o env h [] [] (.sla sz es) [] := by
  intro env' h' he _ _ a w G r K Q hK
  have ha : ∀ x ∈ o.op.operands.toList, Rep w (XX O h' G) G (evalA env x) (a.eval x) := fun x hx => by
    have := evalA_rep r.env x
    rwa [he x hx] at this
  obtain ⟨cells, f1, f2, f3, f4, f5⟩ := run_buildSlice (P := P) ho hT hS hz hr hlen hsmall ha
  refine wp_value f1 (hK _ _ G ?_)
  have hX : ¬ XX O h' G w.heap.size := by
    rintro (hx | ⟨i, oo, h1, j, hj, hb⟩)
    · have := (r.xlt _ hx).1
      have := r.ext.size
      omega
    · have := (r.obj i oo h1).lt hj hb
      omega
  have hext := Ext.alloc (fun _ => False) w (.cells cells e)
  have r' : Rel O env' h' a (w.alloc (.cells cells e)) G := r.keep hext
  refine r'.put hd ?_
  refine .sla sz es _ len len w.heap.size 0 (fun i j => cells.getD (i * sz + j) undef) f3 (Nat.le_refl _) (fun _ => ⟨rfl, by simp, hX⟩) f4 (fun i e' hi j x hj => ?_) (fun i e' hi j x hj => ?_) (fun i e' hi j x hj => ?_)
  all_goals obtain ⟨v, e1, e2, e3⟩ := f5 i e' hi j x hj
  · rw [Nat.zero_add, cell_of_row (w.alloc (.cells cells e)) w.heap.size _ cells e (0, 0) (heap_alloc_new w _), e1, Array.getD_eq_getD_getElem?, e1]
    rfl
  · rw [Array.getD_eq_getD_getElem?, e1]
    exact e2.ext hext (fun _ _ h => h.elim) (fun _ _ h => h) (GStep.refl G)
  · rw [Array.getD_eq_getD_getElem?, e1]
    exact e3
end
end Go.SL
