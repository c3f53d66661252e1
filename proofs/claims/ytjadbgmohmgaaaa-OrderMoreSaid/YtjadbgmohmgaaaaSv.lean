/- The layer 'SL': a result in a cell; a slice compared with nil. -/
import Derived.Test.YtjadbgmohmgaaaaSu
namespace Go.SL
open Go.RowKit
section
variable {P : Program} {O : Org} {T : Tab P} {Q : Exit → Env → Hp → Prop} {env : Env} {h : Hp} {all rest : List Oper} {o : Oper}

/-! ### a result in a cell -/
def cellR (T : Tab P) (env : Env) (h : Hp) (a0 t0 : Nat) : Option AV := match lk env a0 with
  | .ptr id q => match hget h id with
    | some (.cells cs) => match T.agg t0 with
      | some false => match cs[q]? with
        | some c => some c
        | none => none
      | some true => match T.size t0 with
        | some n => bif Nat.ble (q + n) cs.length then some (.agg ((cs.drop q).take n)) else none
        | none => none
      | none => none
    | _ => none
  | _ => none
def retC (T : Tab P) (a0 t0 : Nat) (R : AV → Hp → Prop) : Exit → Env → Hp → Prop
  | .ret, env, h | .normal, env, h => ∃ av, cellR T env h a0 t0 = some av ∧ R av h
  | _, _, _ => False
theorem retC1 {a0 t0 : Nat} {R : AV → Hp → Prop} {av : AV} (hv : cellR T env h a0 t0 = some av) (H : R av h) : retC T a0 t0 R .ret env h := ⟨av, hv, H⟩
theorem endC1 {a0 t0 : Nat} {R : AV → Hp → Prop} {av : AV} (hv : cellR T env h a0 t0 = some av) (H : R av h) : retC T a0 t0 R .normal env h := ⟨av, hv, H⟩
theorem gC {a0 t0 : Nat} {R : AV → Hp → Prop} {e : Exit} (K : retC T a0 t0 R e env h) : retC T a0 t0 R e env h := K

/-! ### a slice compared with nil: both ways -/
end
end Go.SL
