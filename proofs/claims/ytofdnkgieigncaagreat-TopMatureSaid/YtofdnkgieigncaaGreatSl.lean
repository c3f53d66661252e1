/- The layer 'SL': maps: what is not there. -/
import Derived.Test.YtofdnkgieigncaaGreatSk
namespace Go.SL
open Go.RowKit Go.MapKept

section
variable {P : Program} {O : Org} {T : Tab P} {Q : Exit → Env → Hp → Prop} {env : Env} {h hp : Hp} {o : Oper}
variable {t kt et id : Nat} {x i : Operand} {k : Value} {dk : KK} {es : List (Value × AV)} {it : Option (Nat × List Value × Option Value)}
/-! ### tests that are decided; Bools compared -/
theorem LStep_eqlT {tt yt : Nat} {x y : Operand} {k : IntKind} {a b : Int} (ho : o.op = .binOp .eql tt x y yt) (hx : evalA env x = .d (.sc (.int k a))) (hy : evalA env y = .d (.sc (.int k b))) (hd : dstOk o.dst O.nt = true) (h : a = b) : LStep P O o env hp [] [] (.d (.sc (.bool true))) [] := by
  have hb : binA .eql (evalA env x) (evalA env y) = some (.d (.sc (.bool (eqb a b)))) := by rw [hx, hy]; simp [binA]
  rw [eqb_t.2 h] at hb
  exact LStep_binOp hd ho hb
theorem LStep_neqF {tt yt : Nat} {x y : Operand} {k : IntKind} {a b : Int} (ho : o.op = .binOp .neq tt x y yt) (hx : evalA env x = .d (.sc (.int k a))) (hy : evalA env y = .d (.sc (.int k b))) (hd : dstOk o.dst O.nt = true) (h : a = b) : LStep P O o env hp [] [] (.d (.sc (.bool false))) [] := by
  have hb : binA .neq (evalA env x) (evalA env y) = some (.d (.sc (.bool (!eqb a b)))) := by rw [hx, hy]; simp [binA]
  rw [eqb_t.2 h] at hb
  exact LStep_binOp hd ho hb
theorem LStep_neqSF {tt yt : Nat} {x y : Operand} {a b : ByteArray} (ho : o.op = .binOp .neq tt x y yt) (hx : evalA env x = .d (.sc (.string a))) (hy : evalA env y = .d (.sc (.string b))) (hd : dstOk o.dst O.nt = true) (h : a = b) : LStep P O o env hp [] [] (.d (.sc (.bool false))) [] := by
  have hb : binA .neq (evalA env x) (evalA env y) = some (.d (.sc (.bool (!eqs a b)))) := by rw [hx, hy]; simp [binA]
  rw [eqs_t.2 h] at hb
  exact LStep_binOp hd ho hb
end
/-! ### nil handed in -/
inductive CoeA : AV → AV → Prop
  | refl (x : AV) : CoeA x x
  | nil (sz : Nat) : CoeA (.d (.sc (.slice none 0 0))) (.d (.sl sz []))
def CoeL : List AV → List AV → Prop
  | [], [] => True
  | x :: xs, y :: ys => CoeA x y ∧ CoeL xs ys
  | _, _ => False
theorem CoeL.at : ∀ {xs ys : List AV}, CoeL xs ys → xs.length = ys.length ∧ ∀ (i : Nat) (y : AV), ys[i]? = some y → ∃ x, xs[i]? = some x ∧ CoeA x y
  | [], [], _ => ⟨rfl, fun i y h => by simp at h⟩
  | x :: xs, y :: ys, h => by
    obtain ⟨h1, h2⟩ := CoeL.at h.2
    refine ⟨by simp [h1], fun i z hz => ?_⟩
    cases i with
    | zero => simp at hz; subst hz; exact ⟨x, rfl, h.1⟩
    | succ i => exact h2 i z (by simpa using hz)
end Go.SL
