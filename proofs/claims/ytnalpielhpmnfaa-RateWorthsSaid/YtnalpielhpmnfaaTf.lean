/- The layer 'SL': maps.Clone; what the library's own code does with a map that is handed to it. -/
import Derived.Test.YtnalpielhpmnfaaTa
import Derived.Shelf.SlMaps.Clone
import Derived.Test.YtnalpielhpmnfaaSh
import Derived.LaidMore
import Derived.Lay
namespace Go.SL
open Go.RowKit Go.Proofs Go.Shelf
section
variable {P : Program} {ρ : Ren}
end
end Go.SL
/- The layer 'SL': a package's variable, told whole (an object 'raw'); bits of numbers. -/
namespace Go.SL
open Go.RowKit
section
variable {P : Program} {O : Org} {T : Tab P} {env : Env} {h : Hp} {o : Oper}
theorem LStep_shr {t yt : Nat} {x y : Operand} {k yk : IntKind} {m n q : Int} (ho : o.op = .binOp .shr t x y yt) (hx : evalA env x = .d (.sc (.int k m))) (hy : evalA env y = .d (.sc (.int yk n))) (hn : 0 ≤ n) (hq : m.fdiv (2 ^ (min n.toNat k.bits)) = q) (hd : dstOk o.dst O.nt = true) :
    LStep P O o env h [] [] (.d (.sc (.int k q))) [] := by
  subst hq
  refine .quiet hd (fun env' h' he _ a w G r => ?_)
  have h1 := evalA_rep r.env x
  have h2 := evalA_rep r.env y
  rw [he x (by simp [ho, Op.operands]), hx] at h1
  rw [he y (by simp [ho, Op.operands]), hy] at h2
  have hn' : ¬ n < 0 := by omega
  exact ⟨.int k (m.fdiv (2 ^ (min n.toNat k.bits))), by simp [execOp, ho, h1.sc_inv, h2.sc_inv, eqGuard, binOp, Op.shift, hn'], .d _ _ (.sc _ rfl)⟩
def andI (k : IntKind) (m n : Int) : Int := k.wrap (BitVec.ofInt k.bits m &&& BitVec.ofInt k.bits n).toNat
theorem LStep_and {t yt : Nat} {x y : Operand} {k : IntKind} {m n q : Int} (ho : o.op = .binOp .and t x y yt) (hx : evalA env x = .d (.sc (.int k m))) (hy : evalA env y = .d (.sc (.int k n))) (hq : andI k m n = q) (hd : dstOk o.dst O.nt = true) :
    LStep P O o env h [] [] (.d (.sc (.int k q))) [] := by
  subst hq
  refine .quiet hd (fun env' h' he _ a w G r => ?_)
  have h1 := evalA_rep r.env x
  have h2 := evalA_rep r.env y
  rw [he x (by simp [ho, Op.operands]), hx] at h1
  rw [he y (by simp [ho, Op.operands]), hy] at h2
  exact ⟨.int k (andI k m n), by simp [execOp, ho, h1.sc_inv, h2.sc_inv, eqGuard, binOp, Op.intBits, andI], .d _ _ (.sc _ rfl)⟩
end
end Go.SL
/- The layer 'SL': maps whose entries' stamps are told (m[k] = v at a map from which may have been deleted). -/
namespace Go.SL
open Go.RowKit Go.MapKept
section
variable {P : Program} {O : Org} {T : Tab P} {Q : Exit → Env → Hp → Prop} {env : Env} {h : Hp} {all rest : List Oper} {o : Oper}
/-- no two stamps alike, all ahead of the clock -/
structure StOk (es : List (Value × AV)) (st : List Nat) (ck : Nat) : Prop where
  len : st.length = es.length
  nd : ∀ (i j s : Nat), st[i]? = some s → st[j]? = some s → i = j
  lt : ∀ s ∈ st, s < ck
variable {t kt et id : Nat} {x i : Operand} {es : List (Value × AV)} {dk : KK} {k : Value} {c : AV} {st : List Nat} {ck : Nat}
end
end Go.SL
/- The layer 'SL': objects under other names. -/
namespace Go.SL
open Go.RowKit
section
variable {P : Program} {O : Org} {Q : Exit → Env → Hp → Prop} {env : Env} {h : Hp}
variable {o : Oper} {x : Operand}
theorem run_eqNilPtr {t e : TypeId} (hT : P.underlying t = some (.pointer e)) (w : World) (a : Option Addr) : (Op.equal t (.pointer a) (.pointer none)).run P w = .ok a.isNone w := by
  unfold Op.equal
  rw [show Op.maxDepth = 9999 + 1 from rfl, Op.equalIn]
  simp only [Sem.run_bind, run_underlying hT, Result.andThen_ok]
  cases a <;> simp
theorem LStep_eqNilP {T : Tab P} {tt yt id q e : Nat} (ho : o.op = .binOp .eql tt x (.const (.pointer none)) yt) (hd : dstOk o.dst O.nt = true) (hT : T.desc tt = some (.ptr e)) (hx : evalA env x = .ptr id q) : LStep P O o env h [] [] (.d (.sc (.bool false))) [] := by
  refine .quiet hd (fun env' h' he hTs a w G r => ?_)
  have h1 := evalA_rep r.env x
  rw [he x (by simp [ho, Op.operands]), hx] at h1
  generalize hv : a.eval x = v at h1
  cases h1 with
  | ptr _ _ b hb =>
    refine ⟨.bool false, ?_, .d _ _ (.sc _ rfl)⟩
    have hy : a.eval (.const (.pointer none)) = .pointer none := rfl
    simp [execOp, ho, hv, hy, eqGuard, binOp, run_eqNilPtr (P := P) (T.desc_ok hT) w]
end
end Go.SL
/- The layer 'SL': from a law's contract to its row, where a package's variable is read (laid by the row). -/
namespace Go.SL
open Go.RowKit Go.WideShapes Go.ChangeShapes
section
variable {P : Program} (T : Tab P)
end
section
variable {H : Type} {enc : TypeId × Value → H}
end
end Go.SL
