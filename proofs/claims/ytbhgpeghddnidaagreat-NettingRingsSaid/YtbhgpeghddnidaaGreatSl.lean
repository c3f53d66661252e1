/- The layer 'SL': maps: what is not there. -/
import Derived.Test.YtbhgpeghddnidaaGreatSk
namespace Go.SL
open Go.RowKit Go.MapKept

section
variable {P : Program} {O : Org} {T : Tab P} {Q : Exit → Env → Hp → Prop} {env : Env} {h hp : Hp} {o : Oper}
variable {t kt et id : Nat} {x i : Operand} {k : Value} {dk : KK} {es : List (Value × AV)} {it : Option (Nat × List Value × Option Value)}
/-! ### tests that are decided; Bools compared -/
theorem LStep_neqSF {tt yt : Nat} {x y : Operand} {a b : ByteArray} (ho : o.op = .binOp .neq tt x y yt) (hx : evalA env x = .d (.sc (.string a))) (hy : evalA env y = .d (.sc (.string b))) (hd : dstOk o.dst O.nt = true) (h : a = b) : LStep P O o env hp [] [] (.d (.sc (.bool false))) [] := by
  have hb : binA .neq (evalA env x) (evalA env y) = some (.d (.sc (.bool (!eqs a b)))) := by rw [hx, hy]; simp [binA]
  rw [eqs_t.2 h] at hb
  exact LStep_binOp hd ho hb
theorem LStep_eqBool {tt yt : Nat} {x y : Operand} {a b : Bool} (ho : o.op = .binOp .eql tt x y yt) (hu : T.desc tt = some .bool) (hx : evalA env x = .d (.sc (.bool a))) (hy : evalA env y = .d (.sc (.bool b))) (hd : dstOk o.dst O.nt = true) : LStep P O o env h [] [] (.d (.sc (.bool (a == b)))) [] := by
  refine .quiet hd (fun env' h' he _ ac w G r => ⟨.bool (a == b), ?_, .d _ _ (.sc _ rfl)⟩)
  have h1 := evalA_rep r.env x
  have h2 := evalA_rep r.env y
  rw [he x (by simp [ho, Op.operands]), hx] at h1
  rw [he y (by simp [ho, Op.operands]), hy] at h2
  simp [execOp, ho, h1.sc_inv, h2.sc_inv, eqGuard, binOp, run_equal_bool (P := P) w tt a b (T.desc_ok hu)]
theorem LStep_eqBoolT {tt yt : Nat} {x y : Operand} {a b : Bool} (ho : o.op = .binOp .eql tt x y yt) (hu : T.desc tt = some .bool) (hx : evalA env x = .d (.sc (.bool a))) (hy : evalA env y = .d (.sc (.bool b))) (hd : dstOk o.dst O.nt = true) (h : a = b) : LStep P O o env hp [] [] (.d (.sc (.bool true))) [] := by
  subst h
  have := LStep_eqBool (O := O) (T := T) (h := hp) ho hu hx hy hd
  rwa [beq_self_eq_true] at this
end
/-! ### nil handed in -/
inductive CoeA : AV → AV → Prop
  | refl (x : AV) : CoeA x x
  | nil (sz : Nat) : CoeA (.d (.sc (.slice none 0 0))) (.d (.sl sz []))
def CoeL : List AV → List AV → Prop
  | [], [] => True
  | x :: xs, y :: ys => CoeA x y ∧ CoeL xs ys
  | _, _ => False
theorem CoeL.at : ∀ {xs ys : List AV}, CoeL xs ys → xs.length = ys.length ∧ ∀ (i : Nat) (y : AV), ys[i]? = some y → ∃ x, xs[i]? = some x ∧ CoeA x y
  | [], [], _ => ⟨rfl, fun i y h => by simp at h⟩
  | x :: xs, y :: ys, h => by
    obtain ⟨h1, h2⟩ := CoeL.at h.2
    refine ⟨by simp [h1], fun i z hz => ?_⟩
    cases i with
    | zero => simp at hz; subst hz; exact ⟨x, rfl, h.1⟩
    | succ i => exact h2 i z (by simpa using hz)
end Go.SL
