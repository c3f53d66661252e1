/- The layer 'SL': a part of an own row; min and max. -/
import Derived.Test.YtofdnkgieigncaaGreatSm
import Derived.Test.YtofdnkgieigncaaGreatSk
import Derived.Test.YtofdnkgieigncaaGreatSv
import Derived.Test.YtofdnkgieigncaaGreatSq
import Derived.Test.YtofdnkgieigncaaGreatSy
namespace Go.SL
open Go.RowKit
section
variable {P : Program} {O : Org} {T : Tab P} {Q : Exit → Env → Hp → Prop} {env : Env} {h : Hp} {o : Oper}
/-! ### min, max -/
def minI (a b : Int) : Int := if b < a then b else a
theorem LStep_min {ts : Array Nat} {x y : Operand} {k : IntKind} {m n q : Int} (ho : o.op = .call { callee := .builtin .min, args := #[x, y], argTypes := ts }) (hd : dstOk o.dst O.nt = true) (hx : evalA env x = .d (.sc (.int k m))) (hy : evalA env y = .d (.sc (.int k n))) (hq : minI m n = q) :
    LStep P O o env h [] [] (.d (.sc (.int k q))) [] := by
  refine .quiet hd (fun env' h' he _ a w G r => ⟨.int k q, ?_, .d _ _ (.sc _ rfl)⟩)
  have h1 := evalA_rep r.env x
  have h2 := evalA_rep r.env y
  rw [he x (by simp [ho, Op.operands, Call.operands]), hx] at h1
  rw [he y (by simp [ho, Op.operands, Call.operands]), hy] at h2
  subst hq
  simp [execOp, ho, resolve, invoke, builtin, Builtin.min_, Builtin.min2, h1.sc_inv, h2.sc_inv, minI]
/-! ### a part of an own row -/
end
end Go.SL
/- The layer 'SL': results in cells and in slots, of any number. -/
namespace Go.SL
open Go.RowKit
section
variable {P : Program} {O : Org} {T : Tab P} {Q : Exit → Env → Hp → Prop} {env : Env} {h : Hp}
def resG (T : Tab P) (env : Env) (h : Hp) : List ResultVar → Option (List AV)
  | [] => some []
  | .tmp t :: r => match eta [] (lk env t), resG T env h r with
    | some (x, _), some l => some (x :: l)
    | _, _ => none
  | .cell a t :: r => match cellR T env h a t with
    | some x => match eta [] x, resG T env h r with
      | some (x, _), some l => some (x :: l)
      | _, _ => none
    | none => none
theorem run_resG {a : Act} {w : World} {G : Ctx} (r : Rel O env h a w G) : ∀ (rv : List ResultVar) (l : List AV), resG T env h rv = some l → ∃ vs : List Value, (rv.mapM (resM a.tmps)).run P w = .ok vs w ∧ vs.length = l.length ∧ ∀ (i : Nat) (x : AV) (v : Value), l[i]? = some x → vs[i]? = some v → Rep w (XX O h G) G x v := by
  intro rv
  induction rv with
  | nil => intro l hl; cases hl; exact ⟨[], by simp, rfl, fun i x v hx => by simp at hx⟩
  | cons x rv ih =>
    intro l hl
    have one : ∃ y l' v, l = y :: l' ∧ resG T env h rv = some l' ∧ (resM a.tmps x).run P w = .ok v w ∧ Rep w (XX O h G) G y v := by
      cases x with
      | cell a0 t0 =>
        simp only [resG] at hl
        cases hc : cellR T env h a0 t0 with
        | none => rw [hc] at hl; cases hl
        | some y =>
          rw [hc] at hl
          simp only [eta_eq] at hl
          cases hr : resG T env h rv with
          | none => rw [hr] at hl; cases hl
          | some l' =>
            rw [hr] at hl
            cases hl
            obtain ⟨v, f1, f2⟩ := run_cellR r hc
            exact ⟨y, l', v, rfl, rfl, f1, f2⟩
      | tmp t =>
        simp only [resG, eta_eq] at hl
        cases hr : resG T env h rv with
        | none => rw [hr] at hl; cases hl
        | some l' =>
          rw [hr] at hl
          cases hl
          exact ⟨_, l', _, rfl, rfl, rfl, r.env t⟩
    obtain ⟨y, l', v0, rfl, hr, f1, f2⟩ := one
    obtain ⟨vs, h1, h2, h3⟩ := ih l' hr
    refine ⟨v0 :: vs, by simp only [List.mapM_cons, Sem.run_bind, Sem.run_pure, f1, Result.andThen_ok, h1], by simp [h2], fun i x v hx hv => ?_⟩
    cases i with
    | zero =>
      simp only [List.getElem?_cons_zero, Option.some.injEq] at hx hv
      subst hx; subst hv
      exact f2
    | succ i => exact h3 i x v (by simpa using hx) (by simpa using hv)
def retG (T : Tab P) (rv : List ResultVar) (R : AV → Hp → Prop) : Exit → Env → Hp → Prop
  | .ret, env, h | .normal, env, h => ∃ l, resG T env h rv = some l ∧ R (resV l) h
  | _, _, _ => False
theorem retG1 {rv : List ResultVar} {R : AV → Hp → Prop} {l : List AV} {x : AV} (hv : resG T env h rv = some l) (hx : resV l = x) (H : R x h) : retG T rv R .ret env h := ⟨l, hv, hx ▸ H⟩
theorem endG1 {rv : List ResultVar} {R : AV → Hp → Prop} {l : List AV} {x : AV} (hv : resG T env h rv = some l) (hx : resV l = x) (H : R x h) : retG T rv R .normal env h := ⟨l, hv, hx ▸ H⟩
theorem retGa {rv : List ResultVar} {R : AV → Hp → Prop} {x : AV} (hv : resG T env h rv = some [x]) (H : R x h) : retG T rv R .ret env h := ⟨_, hv, H⟩
theorem retGb {rv : List ResultVar} {R : AV → Hp → Prop} {x y : AV} (hv : resG T env h rv = some [x, y]) (H : R (.tup [x, y]) h) : retG T rv R .ret env h := ⟨_, hv, H⟩
theorem retGc {rv : List ResultVar} {R : AV → Hp → Prop} {x y z : AV} (hv : resG T env h rv = some [x, y, z]) (H : R (.tup [x, y, z]) h) : retG T rv R .ret env h := ⟨_, hv, H⟩
theorem gRG {rv : List ResultVar} {R : AV → Hp → Prop} {e : Exit} (K : retG T rv R e env h) : retG T rv R e env h := K
theorem AC_enterG (T : Tab P) {f : FuncId} {fn : Func} {c : Code} {args : List AV} {ids : List Nat} {R : AV → Hp → Prop} {rv : List ResultVar} (hf : P.funcs[f]? = some fn) (hb : fn.body = some c) {nt : Nat} (hn : fn.ntmps = nt)
    (hrv : fn.results.toList = rv) (hname : (fn.name == "runtime.NumGoroutine") = false) (hle : args.length ≤ nt)
    (H : ∀ w X G, AW P (org w X h G ids nt) c (retG T rv R) (argEnv 0 args) h) : AC P f args h ids R := by
  refine ⟨callable_of hf hb hname, ?_⟩
  intro w X G vs r hl hv
  subst hn
  subst hrv
  refine calls_of_wp hf hb ?_
  have r0 : Rel (org w X h G ids fn.ntmps) (argEnv 0 args) h { tmps := vs.toArray ++ Array.replicate (fn.ntmps - vs.toArray.size) undef, defers := [] } w G := by
    refine ⟨by simp [org]; omega, rfl, fun t => ?_, r.obj, r.dist, r.ext, r.own, r.xlt, r.ids⟩
    rw [lk_argEnv, if_pos (Nat.zero_le _)]
    cases ha : args[t - 0]? with
    | none => exact .any _
    | some x =>
      have ha' : args[t]? = some x := ha
      have hlt : t < vs.length := by rw [hl]; exact (List.getElem?_eq_some_iff.1 ha').1
      have e : (vs.toArray ++ Array.replicate (fn.ntmps - vs.toArray.size) undef).getD t undef = vs[t] := by
        rw [Array.getD_eq_getD_getElem?, Array.getElem?_append_left (by simpa using hlt)]
        simp [hlt]
      rw [e]
      exact hv t x _ ha' (List.getElem?_eq_getElem hlt)
  refine Code.wp_mono (fun e a w' => ?_) (H w X G _ w G r0)
  rintro ⟨env', h', G', r', q⟩
  have fin : retG T fn.results.toList R .ret env' h' → a.defers = [] ∧ ∃ v, (results fn a.tmps).run P w' = .ok v w' ∧
      ∃ v', ∃ r h'' G', Ending.returned v = .returned v' ∧ Rel (org w X h G ids 0) [] h'' noAct w' G' ∧ Rep w' (XX (org w X h G ids 0) h'' G') G' r v' ∧ R r h'' := by
    rintro ⟨l, hl, q⟩
    obtain ⟨vs', h1, h2, h3⟩ := run_resG (T := T) r' fn.results.toList l hl
    have hm : (results fn a.tmps).run P w' = .ok (if h : vs'.toArray.size = 1 then vs'.toArray[0] else .tuple vs'.toArray) w' := by
      rw [results_resM]
      have e : fn.results.mapM (resM a.tmps) = List.toArray <$> fn.results.toList.mapM (resM a.tmps) := by rw [← List.mapM_toArray]
      simp only [e, Sem.run_bind, Sem.run_map, h1, Result.andThen_ok, Sem.run_pure]
    refine ⟨r'.dfr, _, hm, _, resV l, h', G', rfl, ⟨rfl, rfl, fun t => .any _, r'.obj, r'.dist, r'.ext, r'.own, r'.xlt, r'.ids⟩, ?_, q⟩
    unfold resV
    split
    · rename_i x
      obtain ⟨v, rfl⟩ : ∃ v, vs' = [v] := List.length_eq_one_iff.1 h2
      exact h3 0 x v rfl rfl
    · rename_i hne
      have : ¬ vs'.toArray.size = 1 := by
        intro e
        have e' : l.length = 1 := by rw [← h2]; simpa using e
        obtain ⟨x, hx⟩ := List.length_eq_one_iff.1 e'
        exact hne x hx
      rw [dif_neg this]
      exact .tup l _ (by simpa using h2) (fun i x v hx hv => h3 i x v hx (by simpa using hv))
  cases e with
  | ret => exact fin q
  | normal => exact fin q
  | _ => exact False.elim q
end
end Go.SL
/- The layer 'SL': append(own, ..) whose result is data at once: the own row is written no more. -/
namespace Go.SL
open Go.RowKit
section
variable {P : Program} {O : Org} {T : Tab P} {Q : Exit → Env → Hp → Prop} {env : Env} {h : Hp} {o : Oper}
end
end Go.SL
/- The layer 'SL': a struct built with nil within, taken as empty slices. -/
namespace Go.SL
open Go.RowKit
section
variable {P : Program} {O : Org} {T : Tab P} {env : Env} {h : Hp} {o : Oper}
end
end Go.SL
/- The layer 'SL': a contract at objects whose heap is told otherwise: by what is looked up alone; a map whose order is not told. -/
namespace Go.SL
open Go.RowKit
section
variable {P : Program} {f : FuncId} {args : List AV} {ids : List Nat}
theorem Own_congr {h h' : Hp} {G : Ctx} (hh : ∀ i, (hget h i).map names = (hget h' i).map names) : Own h G = Own h' G := by
  have one : ∀ {h h' : Hp}, (∀ i, (hget h i).map names = (hget h' i).map names) → ∀ b, Own h G b → Own h' G b := by
    intro h h' hh b ⟨i, o, h1, j, hj, hb⟩
    have := hh i
    rw [h1] at this
    cases hq : hget h' i with
    | none => rw [hq] at this; cases this
    | some o' =>
      rw [hq] at this
      simp only [Option.map_some, Option.some.injEq] at this
      exact ⟨i, o', hq, j, by rw [← this]; exact hj, hb⟩
  funext b
  exact propext ⟨one hh b, one (fun i => (hh i).symm) b⟩
theorem AC.heap {h h' : Hp} {R : AV → Hp → Prop} (H : AC P f args h ids R) (hh : ∀ i, hget h i = hget h' i) : AC P f args h' ids R := by
  have hO : ∀ G, Own h G = Own h' G := fun G => Own_congr (fun i => by rw [hh])
  refine ⟨H.1, fun w X G vs r hl hv => ?_⟩
  have ho : org w X h G ids 0 = org w X h' G ids 0 := by unfold org; rw [hO]
  have h2 := H.2 w X G vs
  rw [ho] at h2
  have hX : XX (org w X h' G ids 0) h G = XX (org w X h' G ids 0) h' G := by unfold XX; rw [hO]
  refine h2 (r.weak (fun t => .inl rfl) (fun i o e => by rw [← hh]; exact e)) hl (fun i x v h3 h4 => ?_)
  rw [hX]
  exact hv i x v h3 h4
end
end Go.SL
