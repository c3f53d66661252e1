/- The layer 'SL': calls. -/
import Derived.Test.YtnfgkccocknloaaS7
namespace Go.SL
open Go.RowKit

theorem Rel.lt {O : Org} {env : Env} {h : Hp} {a : Act} {w : World} {G : Ctx} (r : Rel O env h a w G) {b : Nat} (hb : XX O h G b) : b < w.heap.size := by
  rcases hb with hb | ⟨i, o, h1, j, hj, hb⟩
  · exact Nat.lt_of_lt_of_le (r.xlt b hb).1 r.ext.size
  · exact (r.obj i o h1).lt hj hb
/-- nothing that was there has turned -/
theorem Rel.keep {O : Org} {env : Env} {h : Hp} {a : Act} {w w' : World} {G : Ctx} (r : Rel O env h a w G) (he : Ext (fun _ => False) w w') : Rel O env h a w' G :=
  ⟨r.size, r.dfr, fun t => (r.env t).ext he (fun _ _ h => h.elim) (fun _ _ h => h) (GStep.refl G),
    fun i oo h1 => (r.obj i oo h1).ext he (fun _ _ h => h.elim) (fun _ _ h => h) (fun hh => hh.ext he (fun _ _ h => h.elim) (fun _ _ h => h) (GStep.refl G)) (fun _ _ => ⟨rfl, rfl⟩) (fun _ _ _ _ h => h),
    r.dist, r.ext.transNew he (fun _ _ h => h.elim), r.own, r.xlt, r.ids⟩

section
variable {P : Program} {O : Org} {T : Tab P} {Q : Exit → Env → Hp → Prop} {env : Env} {h : Hp} {all rest : List Oper} {o : Oper} {rs : List Rc}

/-- a contract without objects, met in any state -/
theorem AC.at {f : FuncId} {args : List AV} {R : AV → Hp → Prop} (H : AC P f args [] [] R) {a : Act} {w : World} {G : Ctx} (r : Rel O env h a w G) {vs : List Value} (hl : vs.length = args.length)
    (hv : ∀ (i : Nat) (x : AV) (v : Value), args[i]? = some x → vs[i]? = some v → Rep w (XX O h G) G x v) :
    Calls P f vs.toArray w fun e w' => ∃ v x h' G', e = .returned v ∧ Rel O env h a w' G ∧ Rep w' (XX O h G) G' x v ∧ R x h' := by
  have r0 : Rel (org w (XX O h G) [] G [] 0) [] [] noAct w G :=
    ⟨rfl, rfl, fun t => .any _, fun id o ho => (by cases ho), fun id o j id' o' j' b h1 => (by cases h1), Ext.refl _ w, fun b hb => (by obtain ⟨id, o, h1, _⟩ := hb; cases h1), fun b hb => ⟨r.lt hb, fun ⟨id, o, h1, _⟩ => (by cases h1)⟩, fun id hid => (by cases hid)⟩
  refine (H.2 w (XX O h G) G vs r0 hl (fun i x v hx hvv => (hv i x v hx hvv).ext (Ext.refl (fun _ => False) w) (fun _ _ h => h.elim) (fun b _ hb => ?_) (GStep.refl G))).mono ?_
  · rcases hb with hb | ⟨id, o, h1, _⟩
    · exact hb
    · cases h1
  · rintro e w' ⟨v, x, h', G', h1, h2, h3, h4⟩
    refine ⟨v, x, h', G', h1, r.keep (h2.ext.mono (fun b _ hb => ?_)), h3.ext (Ext.refl (fun _ => False) w') (fun _ _ h => h.elim) (fun b _ hb => .inl hb) (GStep.refl G'), h4⟩
    obtain ⟨id, o, h1, _⟩ := hb
    cases h1

theorem argsRep {a : Act} {w : World} {G : Ctx} {env' : Env} (r : Rel O env' h a w G) {as : Array Operand} (he : ∀ x ∈ as.toList, evalA env' x = evalA env x) {args : List AV} (ha : as.toList.map (evalA env) = args) :
    (as.map a.eval).toList.length = args.length ∧ ∀ (i : Nat) (x : AV) (v : Value), args[i]? = some x → (as.map a.eval).toList[i]? = some v → Rep w (XX O h G) G x v := by
  subst ha
  refine ⟨by simp, fun i x v hx hv => ?_⟩
  simp only [List.getElem?_map, Option.map_eq_some_iff] at hx
  obtain ⟨y, hy, rfl⟩ := hx
  simp only [Array.toList_map, List.getElem?_map, hy, Option.map_some, Option.some.injEq] at hv
  subst hv
  rw [← he y (List.mem_of_getElem? hy)]
  exact evalA_rep r.env y

/-- a call of a function that needs no object, and hands back what is known -/
theorem LStep_call {f : FuncId} {args : List AV} {rv : AV} {as : Array Operand} {ts : Array TypeId} (H : AC P f args [] [] (fun r _ => r = rv)) (ho : o.op = .call { callee := .value (.func f), args := as, argTypes := ts })
    (ha : as.toList.map (evalA env) = args) (hd : dstOk o.dst O.nt = true) (hn : noid rv = true) : LStep P O o env h [] [] rv [] := by
  intro env' h' he _ _ a w G r K Q hK
  obtain ⟨h1, h2⟩ := argsRep (h := h') (env := env) r (as := as) (fun x hx => he x (by simp [ho, Op.operands, Call.operands, Array.mem_toList_iff.1 hx])) ha
  have hrun : (execOp a.eval o).run P w = .ok (.enter f (as.map a.eval)) w := by
    simp [execOp, ho, resolve, Act.eval, Deferred.ofValue, invoke, H.1 (as.map a.eval) w]
  unfold Oper.wp
  rw [hrun]
  show Calls P f (as.map a.eval) w _
  have := H.at r h1 h2
  rw [Array.toArray_toList] at this
  refine this.mono ?_
  rintro e w' ⟨v, x, h'', G', rfl, f2, f3, rfl⟩
  exact hK v w' G (f2.put hd (f3.noid G hn))
end
end Go.SL
