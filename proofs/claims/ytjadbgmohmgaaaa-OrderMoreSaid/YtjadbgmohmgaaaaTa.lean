/- The layer 'SL': a part of an own row; min and max. -/
import Derived.Test.YtjadbgmohmgaaaaSu
import Derived.Test.YtjadbgmohmgaaaaSk
import Derived.Test.YtjadbgmohmgaaaaSv
import Derived.Test.YtjadbgmohmgaaaaSq
import Derived.Test.YtjadbgmohmgaaaaSy
namespace Go.SL
open Go.RowKit
section
variable {P : Program} {O : Org} {T : Tab P} {Q : Exit → Env → Hp → Prop} {env : Env} {h : Hp} {o : Oper}
/-! ### min, max -/
/-! ### a part of an own row -/
end
end Go.SL
/- The layer 'SL': results in cells and in slots, of any number. -/
namespace Go.SL
open Go.RowKit
section
variable {P : Program} {O : Org} {T : Tab P} {Q : Exit → Env → Hp → Prop} {env : Env} {h : Hp}
def resG (T : Tab P) (env : Env) (h : Hp) : List ResultVar → Option (List AV)
  | [] => some []
  | .tmp t :: r => match eta [] (lk env t), resG T env h r with
    | some (x, _), some l => some (x :: l)
    | _, _ => none
  | .cell a t :: r => match cellR T env h a t with
    | some x => match eta [] x, resG T env h r with
      | some (x, _), some l => some (x :: l)
      | _, _ => none
    | none => none
def retG (T : Tab P) (rv : List ResultVar) (R : AV → Hp → Prop) : Exit → Env → Hp → Prop
  | .ret, env, h | .normal, env, h => ∃ l, resG T env h rv = some l ∧ R (resV l) h
  | _, _, _ => False
theorem retG1 {rv : List ResultVar} {R : AV → Hp → Prop} {l : List AV} {x : AV} (hv : resG T env h rv = some l) (hx : resV l = x) (H : R x h) : retG T rv R .ret env h := ⟨l, hv, hx ▸ H⟩
theorem endG1 {rv : List ResultVar} {R : AV → Hp → Prop} {l : List AV} {x : AV} (hv : resG T env h rv = some l) (hx : resV l = x) (H : R x h) : retG T rv R .normal env h := ⟨l, hv, hx ▸ H⟩
theorem retGa {rv : List ResultVar} {R : AV → Hp → Prop} {x : AV} (hv : resG T env h rv = some [x]) (H : R x h) : retG T rv R .ret env h := ⟨_, hv, H⟩
theorem retGb {rv : List ResultVar} {R : AV → Hp → Prop} {x y : AV} (hv : resG T env h rv = some [x, y]) (H : R (.tup [x, y]) h) : retG T rv R .ret env h := ⟨_, hv, H⟩
theorem retGc {rv : List ResultVar} {R : AV → Hp → Prop} {x y z : AV} (hv : resG T env h rv = some [x, y, z]) (H : R (.tup [x, y, z]) h) : retG T rv R .ret env h := ⟨_, hv, H⟩
theorem gRG {rv : List ResultVar} {R : AV → Hp → Prop} {e : Exit} (K : retG T rv R e env h) : retG T rv R e env h := K
end
end Go.SL
/- The layer 'SL': append(own, ..) whose result is data at once: the own row is written no more. -/
namespace Go.SL
open Go.RowKit
section
variable {P : Program} {O : Org} {T : Tab P} {Q : Exit → Env → Hp → Prop} {env : Env} {h : Hp} {o : Oper}
theorem Rel.freezeAt {a : Act} {w : World} {G : Ctx} (ts : List Nat) {id n e sz : Nat} {es : List (List D)} (r : Rel O env h a w G) (hl : LkAll env (.own id n) ts) (hh : hget h id = some (.arr e sz es)) (hn : es.length = n) :
    Rel O (ts.map (fun t => (t, .d (.sl sz es))) ++ env) ((id, none) :: h) a w G := by
  obtain ⟨d1, d2⟩ := r.drop hh
  have hob := r.obj id _ hh
  refine ⟨r.size, r.dfr, fun t => ?_, fun i o ho => ?_, fun i o j i' o' j' b h1 h2 h3 h4 => ?_, r.ext, fun b hb => r.own b ?_, r.xlt, r.ids⟩
  · rw [lk_maps]
    split
    · rename_i ht
      have hv := r.env t
      rw [hl.mem t ht] at hv
      generalize a.tmps.getD t undef = v at hv
      cases hv with
      | own _ _ _ _ _ _ hvv =>
        rw [hvv (by rw [hob.1, hn])]
        exact .d _ _ (own_sl hob (fun b _ hb => d1 b hb) (fun b hb => d2 b hb (r.xNot hh hb)))
    · exact (r.env t).ext (Ext.refl (fun _ => False) w) (fun _ _ h => h.elim) (fun b _ hb => d1 b hb) (GStep.refl G)
  · rw [hget_cons] at ho
    by_cases e : id = i
    · rw [if_pos e] at ho; cases ho
    · rw [if_neg e] at ho
      exact (r.obj i o ho).mono (fun b _ hb => d1 b hb)
  · rw [hget_cons] at h1 h3
    by_cases e : id = i
    · rw [if_pos e] at h1; cases h1
    · rw [if_neg e] at h1
      by_cases e' : id = i'
      · rw [if_pos e'] at h3; cases h3
      · rw [if_neg e'] at h3
        exact r.dist i o j i' o' j' b h1 h2 h3 h4
  · exact hb.sub (fun i o ho => by
      rw [hget_cons] at ho
      by_cases e : id = i
      · rw [if_pos e] at ho; cases ho
      · rw [if_neg e] at ho; exact ho)
theorem LStep_appendD {t e sz by' n : Nat} (id : Nat) {z : Value} {s x : Operand} {es news : List (List D)} {dst : Nat} (ho : o.op = .call { callee := .builtin .append, args := #[s, x], argTypes := #[t, t] }) (hds : o.dst = some dst) (hT : T.desc t = some (.slice e)) (hF : T.full e = some (sz, by', z))
    (hzs : Nat.beq z.cells.size sz = true) (hsz : Nat.blt 0 sz = true) (hs : evalA env s = .own id n) (hh : hget h id = some (.arr e sz es)) (hx : evalA env x = .d (.sl sz news)) (hd : dstOk (some dst) O.nt = true) (hi : O.ids.contains id = false)
    (hn : n = es.length) (hb : (es.length + news.length) * by' ≤ 140737488355328) (h63 : es.length + news.length ≤ maxLen) :
    LStep P O o env h [id] [] (.d (.sl sz (es ++ news))) [(id, none)] := by
  intro env' h' he ht hf a w G r K Q hK
  refine LStep_append (T := T) ho hT hF hzs hsz hs hh hx (by rw [hds]; exact hd) hi hn hb h63 env' h' he ht hf a w G r K Q (fun v w' G' r' => hK v w' G' ?_)
  rw [hds] at r' ⊢
  have r2 := r'.freezeAt [dst] (id := id) (n := (es ++ news).length) (e := e) (sz := sz) (es := es ++ news) ⟨by show lk ((dst, _) :: env') dst = _; rw [lk_cons, if_pos rfl], trivial⟩ (by show hget ((id, _) :: h') id = _; rw [hget_cons, if_pos rfl]) rfl
  refine r2.weak (fun t => .inl ?_) (fun i o' hio => ?_)
  · show lk ((dst, _) :: env') t = lk ((dst, _) :: (dst, _) :: env') t
    rw [lk_cons, lk_cons]
    split
    · rfl
    · rename_i e
      rw [lk_cons, if_neg e]
  · have hio : hget ((id, none) :: h') i = some o' := hio
    show hget ((id, none) :: (id, _) :: h') i = some o'
    rw [hget_cons] at hio ⊢
    split at hio
    · cases hio
    · rename_i e
      rw [if_neg e, hget_cons, if_neg e]
      exact hio
end
end Go.SL
/- The layer 'SL': a struct built with nil within, taken as empty slices. -/
namespace Go.SL
open Go.RowKit
section
variable {P : Program} {O : Org} {T : Tab P} {env : Env} {h : Hp} {o : Oper}
end
end Go.SL
/- The layer 'SL': a contract at objects whose heap is told otherwise: by what is looked up alone; a map whose order is not told. -/
namespace Go.SL
open Go.RowKit
section
variable {P : Program} {f : FuncId} {args : List AV} {ids : List Nat}
theorem Own_congr {h h' : Hp} {G : Ctx} (hh : ∀ i, (hget h i).map names = (hget h' i).map names) : Own h G = Own h' G := by
  have one : ∀ {h h' : Hp}, (∀ i, (hget h i).map names = (hget h' i).map names) → ∀ b, Own h G b → Own h' G b := by
    intro h h' hh b ⟨i, o, h1, j, hj, hb⟩
    have := hh i
    rw [h1] at this
    cases hq : hget h' i with
    | none => rw [hq] at this; cases this
    | some o' =>
      rw [hq] at this
      simp only [Option.map_some, Option.some.injEq] at this
      exact ⟨i, o', hq, j, by rw [← this]; exact hj, hb⟩
  funext b
  exact propext ⟨one hh b, one (fun i => (hh i).symm) b⟩
theorem AC.heap {h h' : Hp} {R : AV → Hp → Prop} (H : AC P f args h ids R) (hh : ∀ i, hget h i = hget h' i) : AC P f args h' ids R := by
  have hO : ∀ G, Own h G = Own h' G := fun G => Own_congr (fun i => by rw [hh])
  refine ⟨H.1, fun w X G vs r hl hv => ?_⟩
  have ho : org w X h G ids 0 = org w X h' G ids 0 := by unfold org; rw [hO]
  have h2 := H.2 w X G vs
  rw [ho] at h2
  have hX : XX (org w X h' G ids 0) h G = XX (org w X h' G ids 0) h' G := by unfold XX; rw [hO]
  refine h2 (r.weak (fun t => .inl rfl) (fun i o e => by rw [← hh]; exact e)) hl (fun i x v h3 h4 => ?_)
  rw [hX]
  exact hv i x v h3 h4
end
end Go.SL
