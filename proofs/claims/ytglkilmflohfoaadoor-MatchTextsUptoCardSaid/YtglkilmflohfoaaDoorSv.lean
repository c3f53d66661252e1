/- The layer 'SL': a result in a cell; a slice compared with nil. -/
import Derived.Test.YtglkilmflohfoaaDoorSl
import Derived.Maps.RangeRun
namespace Go.SL
open Go.RowKit
section
variable {P : Program} {O : Org} {T : Tab P} {Q : Exit → Env → Hp → Prop} {env : Env} {h : Hp} {all rest : List Oper} {o : Oper}

/-! ### a result in a cell -/
def cellR (T : Tab P) (env : Env) (h : Hp) (a0 t0 : Nat) : Option AV := match lk env a0 with
  | .ptr id q => match hget h id with
    | some (.cells cs) => match T.agg t0 with
      | some false => match cs[q]? with
        | some c => some c
        | none => none
      | some true => match T.size t0 with
        | some n => bif Nat.ble (q + n) cs.length then some (.agg ((cs.drop q).take n)) else none
        | none => none
      | none => none
    | _ => none
  | _ => none
theorem run_cellR {a : Act} {w : World} {G : Ctx} (r : Rel O env h a w G) {a0 t0 : Nat} {av : AV} (hc : cellR T env h a0 t0 = some av) : ∃ v, (resM a.tmps (.cell a0 t0)).run P w = .ok v w ∧ Rep w (XX O h G) G av v := by
  unfold cellR at hc
  have h1 := r.env a0
  cases hl : lk env a0 with
  | ptr id q =>
    rw [hl] at hc h1
    dsimp only at hc
    cases hh : hget h id with
    | none => rw [hh] at hc; cases hc
    | some ob =>
      rw [hh] at hc
      cases ob with
      | arr _ _ _ => cases hc
      | map _ _ _ _ => cases hc
      | mapF _ _ _ => cases hc
      | mapS _ _ _ _ _ _ => cases hc
      | mapP _ _ _ => cases hc
      | nx _ _ _ _ _ _ _ => cases hc
      | raw _ _ => cases hc
      | tcl _ _ => cases hc
      | cells cs =>
        dsimp only at hc
        obtain ⟨b, arr, ty, e1, e2, e3, e4⟩ := r.obj id _ hh
        generalize hv : a.tmps.getD a0 undef = v at h1
        cases h1 with
        | ptr _ _ b' hb =>
          obtain rfl : b = b' := by rw [e1] at hb; injection hb with hb; injection hb with hb; injection hb
          cases ha : T.agg t0 with
          | none => rw [ha] at hc; cases hc
          | some g =>
            rw [ha] at hc
            cases g with
            | false =>
              dsimp only at hc
              cases hq : cs[q]? with
              | none => rw [hq] at hc; cases hc
              | some c =>
                rw [hq] at hc
                cases hc
                have hlt : q < arr.size := by rw [e3]; exact (List.getElem?_eq_some_iff.1 hq).1
                have hqa := Array.getElem?_eq_getElem hlt
                refine ⟨arr[q], ?_, (e4 q _ _ hq hqa).1⟩
                rw [show resM a.tmps (.cell a0 t0) = (do loadVar t0 (← asAddr (a.tmps.getD a0 undef))) from rfl, hv]
                simp [asAddr, run_loadVar1 T ha (show w.cell? ⟨b, q, none⟩ = some arr[q] by rw [cell_of_row w b q arr ty (0, 0) e2, hqa])]
            | true =>
              dsimp only at hc
              cases hn : T.size t0 with
              | none => rw [hn] at hc; cases hc
              | some n =>
                rw [hn] at hc
                dsimp only at hc
                cases hf : Nat.ble (q + n) cs.length with
                | false => rw [hf] at hc; cases hc
                | true =>
                  rw [hf] at hc
                  cases hc
                  have hle := Nat.le_of_ble_eq_true hf
                  have hcell : ∀ j, j < n → w.cell? ⟨b, q + j, none⟩ = some (arr.getD (q + j) undef) := fun j hj => by
                    have hlt : q + j < arr.size := by omega
                    rw [cell_of_row w b (q + j) arr ty (0, 0) e2, Array.getD_eq_getD_getElem?, Array.getElem?_eq_getElem hlt]; rfl
                  refine ⟨_, by rw [show resM a.tmps (.cell a0 t0) = (do loadVar t0 (← asAddr (a.tmps.getD a0 undef))) from rfl, hv]; simp [asAddr, run_loadVarN T ha hn hcell]; rfl, ?_⟩
                  refine Rep.aggOf (by simp; omega) (fun j c hj => ?_)
                  have hj' : j < n ∧ cs[q + j]? = some c := by
                    rw [List.getElem?_take, List.getElem?_drop] at hj
                    split at hj
                    · exact ⟨by assumption, hj⟩
                    · cases hj
                  have hlt : q + j < arr.size := by omega
                  have := e4 (q + j) c _ hj'.2 (Array.getElem?_eq_getElem hlt)
                  rw [Array.getElem?_eq_getElem hlt]
                  exact this
  | _ => rw [hl] at hc; cases hc
def retC (T : Tab P) (a0 t0 : Nat) (R : AV → Hp → Prop) : Exit → Env → Hp → Prop
  | .ret, env, h | .normal, env, h => ∃ av, cellR T env h a0 t0 = some av ∧ R av h
  | _, _, _ => False
theorem retC1 {a0 t0 : Nat} {R : AV → Hp → Prop} {av : AV} (hv : cellR T env h a0 t0 = some av) (H : R av h) : retC T a0 t0 R .ret env h := ⟨av, hv, H⟩
theorem endC1 {a0 t0 : Nat} {R : AV → Hp → Prop} {av : AV} (hv : cellR T env h a0 t0 = some av) (H : R av h) : retC T a0 t0 R .normal env h := ⟨av, hv, H⟩
theorem AC_enterC (T : Tab P) {f : FuncId} {fn : Func} {c : Code} {args : List AV} {ids : List Nat} {R : AV → Hp → Prop} {a0 t0 : Nat} (hf : P.funcs[f]? = some fn) (hb : fn.body = some c) {nt : Nat} (hn : fn.ntmps = nt)
    (hrv : fn.results.toList = [.cell a0 t0]) (hname : (fn.name == "runtime.NumGoroutine") = false) (hle : args.length ≤ nt)
    (H : ∀ w X G, AW P (org w X h G ids nt) c (retC T a0 t0 R) (argEnv 0 args) h) : AC P f args h ids R := by
  refine ⟨callable_of hf hb hname, ?_⟩
  intro w X G vs r hl hv
  subst hn
  refine calls_of_wp hf hb ?_
  have r0 : Rel (org w X h G ids fn.ntmps) (argEnv 0 args) h { tmps := vs.toArray ++ Array.replicate (fn.ntmps - vs.toArray.size) undef, defers := [] } w G := by
    refine ⟨by simp [org]; omega, rfl, fun t => ?_, r.obj, r.dist, r.ext, r.own, r.xlt, r.ids⟩
    rw [lk_argEnv, if_pos (Nat.zero_le _)]
    cases ha : args[t - 0]? with
    | none => exact .any _
    | some x =>
      have ha' : args[t]? = some x := ha
      have hlt : t < vs.length := by rw [hl]; exact (List.getElem?_eq_some_iff.1 ha').1
      have e : (vs.toArray ++ Array.replicate (fn.ntmps - vs.toArray.size) undef).getD t undef = vs[t] := by
        rw [Array.getD_eq_getD_getElem?, Array.getElem?_append_left (by simpa using hlt)]
        simp [hlt]
      rw [e]
      exact hv t x _ ha' (List.getElem?_eq_getElem hlt)
  refine Code.wp_mono (fun e a w' => ?_) (H w X G _ w G r0)
  rintro ⟨env', h', G', r', q⟩
  have fin : retC T a0 t0 R .ret env' h' → a.defers = [] ∧ ∃ v, (results fn a.tmps).run P w' = .ok v w' ∧
      ∃ v', ∃ r h'' G', Ending.returned v = .returned v' ∧ Rel (org w X h G ids 0) [] h'' noAct w' G' ∧ Rep w' (XX (org w X h G ids 0) h'' G') G' r v' ∧ R r h'' := by
    rintro ⟨av, hc, q⟩
    obtain ⟨v, f1, f2⟩ := run_cellR r' hc
    refine ⟨r'.dfr, v, ?_, v, av, h', G', rfl, ⟨rfl, rfl, fun t => .any _, r'.obj, r'.dist, r'.ext, r'.own, r'.xlt, r'.ids⟩, f2, q⟩
    rw [results_resM]
    have e : fn.results.mapM (resM a.tmps) = List.toArray <$> fn.results.toList.mapM (resM a.tmps) := by rw [← List.mapM_toArray]
    simp only [e, hrv, List.mapM_cons, List.mapM_nil, Sem.run_bind, Sem.run_map, f1, Result.andThen_ok, Sem.run_pure]
    simp
  cases e with
  | ret => exact fin q
  | normal => exact fin q
  | _ => exact False.elim q
theorem gC {a0 t0 : Nat} {R : AV → Hp → Prop} {e : Exit} (K : retC T a0 t0 R e env h) : retC T a0 t0 R e env h := K

theorem ret3 {t u v : Nat} {R : AV → Hp → Prop} {x y z : AV} {Ts Us Vs : List Nat} (hx : eta [] (lk env t) = some (x, Ts)) (hy : eta [] (lk env u) = some (y, Us)) (hz : eta [] (lk env v) = some (z, Vs)) (H : R (.tup [x, y, z]) h) : retQ [.tmp t, .tmp u, .tmp v] R .ret env h := by
  have := eta_inv hx
  have := eta_inv hy
  have := eta_inv hz
  subst x
  subst y
  subst z
  exact H

/-! ### a slice compared with nil: both ways -/
theorem run_eqlNil {t e : TypeId} (hT : P.underlying t = some (.slice e)) (w : World) (A : Option Addr) (n c : Nat) : (Op.equal t (.slice A n c) (.slice none 0 0)).run P w = .ok A.isNone w := by
  unfold Op.equal
  rw [show Op.maxDepth = 9999 + 1 from rfl, Op.equalIn]
  simp only [Sem.run_bind, run_underlying hT, Result.andThen_ok]
  cases A <;> simp
theorem Es_eqNil {t tt e yt sz : Nat} {x : Operand} {es : List (List D)} (ho : o.op = .binOp .eql tt x (.const (.slice none 0 0)) yt) (hw : wantedA all env o = some true) (hd : o.dst = some t) (hn : dstOk (some t) O.nt = true) (hT : T.desc tt = some (.slice e)) (hx : evalA env x = .d (.sl sz es))
    (K1 : es = [] → EvS P O all rest ((t, .d (.sc (.bool true))) :: env) h Q) (K0 : EvS P O all rest ((t, .d (.sc (.bool false))) :: env) h Q) : EvS P O all (o :: rest) env h Q := by
  intro a w G r
  unfold wpList
  rw [if_pos (wantedA_ok r hw)]
  refine .inl ?_
  have h1 := evalA_rep r.env x
  rw [hx] at h1
  generalize hv : a.eval x = v at h1
  cases h1 with
  | d _ _ h1 =>
    cases h1 with
    | sl _ _ A n c b off vs hnn hcap hA hsz hcell hrep =>
      have hrun : (execOp a.eval o).run P w = .ok (.value (.bool A.isNone)) w := by
        have hy : a.eval (.const (.slice none 0 0)) = .slice none 0 0 := rfl
        simp [execOp, ho, hv, hy, eqGuard, binOp, run_eqlNil (P := P) (T.desc_ok hT) w A n c]
      refine wp_value (v := .bool A.isNone) (w' := w) hrun ?_
      cases A with
      | none =>
        have h0 : es = [] := by
          cases es with
          | nil => rfl
          | cons e0 es => obtain ⟨e1, _⟩ := hA (by rw [← hnn]; simp); cases e1
        have r1 := r.put (d := o.dst) (av := .d (.sc (.bool true))) (v := .bool true) (by rw [hd]; exact hn) (.d _ _ (.sc _ rfl))
        rw [hd] at r1 ⊢
        exact K1 h0 _ _ _ r1
      | some ad =>
        have r1 := r.put (d := o.dst) (av := .d (.sc (.bool false))) (v := .bool false) (by rw [hd]; exact hn) (.d _ _ (.sc _ rfl))
        rw [hd] at r1 ⊢
        exact K0 _ _ _ r1
end
end Go.SL
