/- The layer 'SL': slices.Sort at strings, by the shelf's contract. -/
import Derived.Test.YtofdnkgieigncaaGreatSp
import Derived.Test.YtofdnkgieigncaaGreatSq
import Derived.Test.YtofdnkgieigncaaGreatSm
import Derived.Test.YtofdnkgieigncaaGreatTa
import Derived.Sort.EncStr
import Derived.Sort.Walk0
namespace Go.SL
open Go.RowKit Go.Proofs Go.Shelf
section
variable {P : Program} {ρ : Ren} {w : World} {X : Nat → Prop}
end
end Go.SL
/- The layer 'SL': whole elements of own rows read and written; a stable insertion, plain. -/
namespace Go.SL
open Go.RowKit
section
variable {P : Program} {O : Org} {T : Tab P} {env : Env} {h : Hp} {o : Oper}
/-- the address of an array's element, the array a variable -/
theorem LStep_indexPtr {t e n sz id off : Nat} {x i : Operand} {kd : IntKind} {k : Nat} (ho : o.op = .indexAddr t x i) (hT : T.desc t = some (.array n e)) (hS : T.size e = some sz) (hx : evalA env x = .ptr id off) (hi : evalA env i = .d (.sc (.int kd (k : Nat)))) (hd : dstOk o.dst O.nt = true) (hk : Nat.blt k n = true) :
    LStep P O o env h [] [] (.ptr id (off + k * sz)) [] := by
  have hk : k < n := by simpa [Nat.blt_eq] using hk
  refine .quiet hd (fun env' h' he ht a w G r => ?_)
  have h1 := evalA_rep r.env x
  have h2 := evalA_rep r.env i
  rw [he x (by simp [ho, Op.operands]), hx] at h1
  rw [he i (by simp [ho, Op.operands]), hi] at h2
  have h3 := h2.sc_inv
  have hlt : ((k : Nat) : Int) < (n : Int) := by omega
  generalize hq : a.eval x = u at h1
  cases h1 with
  | ptr _ _ b hb =>
    refine ⟨.pointer (some ⟨b, off + k * sz, none⟩), ?_, .ptr id _ b hb⟩
    simp [execOp, ho, hq, h3, Instr.indexAt, Instr.sureAddr, asIntOf, run_underlying (T.desc_ok hT), run_size T hS, Addr.add_lit, hk]
end
/-! ### a stable insertion: plain -/
section
variable {α : Type} (lt : α → α → Bool)
variable {lt}
end
end Go.SL
