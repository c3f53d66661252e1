/- The layer 'SL': a result in a cell; a slice compared with nil. -/
import Derived.Test.YtofdnkgieigncaaGreatSu
namespace Go.SL
open Go.RowKit
section
variable {P : Program} {O : Org} {T : Tab P} {Q : Exit → Env → Hp → Prop} {env : Env} {h : Hp} {all rest : List Oper} {o : Oper}

/-! ### a result in a cell -/
def cellR (T : Tab P) (env : Env) (h : Hp) (a0 t0 : Nat) : Option AV := match lk env a0 with
  | .ptr id q => match hget h id with
    | some (.cells cs) => match T.agg t0 with
      | some false => match cs[q]? with
        | some c => some c
        | none => none
      | some true => match T.size t0 with
        | some n => bif Nat.ble (q + n) cs.length then some (.agg ((cs.drop q).take n)) else none
        | none => none
      | none => none
    | _ => none
  | _ => none
def retC (T : Tab P) (a0 t0 : Nat) (R : AV → Hp → Prop) : Exit → Env → Hp → Prop
  | .ret, env, h | .normal, env, h => ∃ av, cellR T env h a0 t0 = some av ∧ R av h
  | _, _, _ => False
theorem retC1 {a0 t0 : Nat} {R : AV → Hp → Prop} {av : AV} (hv : cellR T env h a0 t0 = some av) (H : R av h) : retC T a0 t0 R .ret env h := ⟨av, hv, H⟩
theorem endC1 {a0 t0 : Nat} {R : AV → Hp → Prop} {av : AV} (hv : cellR T env h a0 t0 = some av) (H : R av h) : retC T a0 t0 R .normal env h := ⟨av, hv, H⟩
theorem gC {a0 t0 : Nat} {R : AV → Hp → Prop} {e : Exit} (K : retC T a0 t0 R e env h) : retC T a0 t0 R e env h := K

/-! ### a slice compared with nil: both ways -/
theorem run_eqlNil {t e : TypeId} (hT : P.underlying t = some (.slice e)) (w : World) (A : Option Addr) (n c : Nat) : (Op.equal t (.slice A n c) (.slice none 0 0)).run P w = .ok A.isNone w := by
  unfold Op.equal
  rw [show Op.maxDepth = 9999 + 1 from rfl, Op.equalIn]
  simp only [Sem.run_bind, run_underlying hT, Result.andThen_ok]
  cases A <;> simp
theorem Es_eqNil {t tt e yt sz : Nat} {x : Operand} {es : List (List D)} (ho : o.op = .binOp .eql tt x (.const (.slice none 0 0)) yt) (hw : wantedA all env o = some true) (hd : o.dst = some t) (hn : dstOk (some t) O.nt = true) (hT : T.desc tt = some (.slice e)) (hx : evalA env x = .d (.sl sz es))
    (K1 : es = [] → EvS P O all rest ((t, .d (.sc (.bool true))) :: env) h Q) (K0 : EvS P O all rest ((t, .d (.sc (.bool false))) :: env) h Q) : EvS P O all (o :: rest) env h Q := by
  intro a w G r
  unfold wpList
  rw [if_pos (wantedA_ok r hw)]
  refine .inl ?_
  have h1 := evalA_rep r.env x
  rw [hx] at h1
  generalize hv : a.eval x = v at h1
  cases h1 with
  | d _ _ h1 =>
    cases h1 with
    | sl _ _ A n c b off vs hnn hcap hA hsz hcell hrep =>
      have hrun : (execOp a.eval o).run P w = .ok (.value (.bool A.isNone)) w := by
        have hy : a.eval (.const (.slice none 0 0)) = .slice none 0 0 := rfl
        simp [execOp, ho, hv, hy, eqGuard, binOp, run_eqlNil (P := P) (T.desc_ok hT) w A n c]
      refine wp_value (v := .bool A.isNone) (w' := w) hrun ?_
      cases A with
      | none =>
        have h0 : es = [] := by
          cases es with
          | nil => rfl
          | cons e0 es => obtain ⟨e1, _⟩ := hA (by rw [← hnn]; simp); cases e1
        have r1 := r.put (d := o.dst) (av := .d (.sc (.bool true))) (v := .bool true) (by rw [hd]; exact hn) (.d _ _ (.sc _ rfl))
        rw [hd] at r1 ⊢
        exact K1 h0 _ _ _ r1
      | some ad =>
        have r1 := r.put (d := o.dst) (av := .d (.sc (.bool false))) (v := .bool false) (by rw [hd]; exact hn) (.d _ _ (.sc _ rfl))
        rw [hd] at r1 ⊢
        exact K0 _ _ _ r1
end
end Go.SL
