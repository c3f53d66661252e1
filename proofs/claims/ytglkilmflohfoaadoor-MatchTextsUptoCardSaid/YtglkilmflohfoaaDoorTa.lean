/- The layer 'SL': a part of an own row; min and max. -/
import Derived.Test.YtglkilmflohfoaaDoorSl
import Derived.Maps.RangeRun
import Derived.Test.YtglkilmflohfoaaDoorSk
import Derived.Test.YtglkilmflohfoaaDoorSv
import Derived.Lib.SlicesCompact
import Derived.Test.YtglkilmflohfoaaDoorSy
namespace Go.SL
open Go.RowKit
section
variable {P : Program} {O : Org} {T : Tab P} {Q : Exit → Env → Hp → Prop} {env : Env} {h : Hp} {o : Oper}
/-! ### min, max -/
/-! ### a part of an own row -/
end
end Go.SL
/- The layer 'SL': results in cells and in slots, of any number. -/
namespace Go.SL
open Go.RowKit
section
variable {P : Program} {O : Org} {T : Tab P} {Q : Exit → Env → Hp → Prop} {env : Env} {h : Hp}
end
end Go.SL
/- The layer 'SL': append(own, ..) whose result is data at once: the own row is written no more. -/
namespace Go.SL
open Go.RowKit
section
variable {P : Program} {O : Org} {T : Tab P} {Q : Exit → Env → Hp → Prop} {env : Env} {h : Hp} {o : Oper}
end
end Go.SL
/- The layer 'SL': a struct built with nil within, taken as empty slices. -/
namespace Go.SL
open Go.RowKit
section
variable {P : Program} {O : Org} {T : Tab P} {env : Env} {h : Hp} {o : Oper}
theorem coeL_agg {xs ys : List AV} (hc : CoeL xs ys) {w : World} {X : Nat → Prop} {G : Ctx} {v : Value} (hr : Rep w X G (.agg xs) v) : Rep w X G (.agg ys) v := by
  obtain ⟨h1, h2⟩ := hc.at
  cases hr with
  | agg cs vs hs hv h1' =>
    exact .agg _ vs (by omega) (fun i y v hy hi => by
      obtain ⟨x, hx, hxy⟩ := h2 i y hy
      exact hxy.rep (hv i x v hx hi)) h1'
theorem lstep_coeR {Ts Ns : List Nat} {av av2 : AV} {u : Hp} (H : LStep P O o env h Ts Ns av u) (hc : ∀ w X G v, Rep w X G av v → Rep w X G av2 v) : LStep P O o env h Ts Ns av2 u := by
  intro env' h' ho ht hf a w G r K Q hK
  refine H env' h' ho ht hf a w G r K Q (fun v w' G' r' => hK v w' G' ⟨r'.size, r'.dfr, fun s => ?_, r'.obj, r'.dist, r'.ext, r'.own, r'.xlt, r'.ids⟩)
  have h1 := r'.env s
  revert h1
  generalize (a.put o.dst v).tmps.getD s undef = x
  cases o.dst with
  | none => exact id
  | some d =>
    show Rep _ _ _ (lk ((d, av) :: env') s) _ → Rep _ _ _ (lk ((d, av2) :: env') s) _
    rw [lk_cons, lk_cons]
    by_cases e : d = s
    · rw [if_pos e, if_pos e]; exact hc _ _ _ _
    · rw [if_neg e, if_neg e]; exact id
theorem LStep_buildC {t : Nat} {parts : Array (Nat × Operand)} {l pl : List (Nat × Nat)} {zs out out' : List AV} (ho : o.op = .build t parts) (hT : T.desc t = some (.struct l)) (hpl : placesOf T l = some pl) (hz : T.zeroC t = some zs)
    (hf : fillA pl zs (parts.toList.map fun p => (p.1, evalA env p.2)) = some out) (hd : dstOk o.dst O.nt = true) (hc : CoeL out out') : LStep P O o env h [] [] (.agg out') [] :=
  lstep_coeR (LStep_build (T := T) ho hT hpl hz hf hd) (fun _ _ _ _ hr => coeL_agg hc hr)
end
end Go.SL
/- The layer 'SL': a contract at objects whose heap is told otherwise: by what is looked up alone; a map whose order is not told. -/
namespace Go.SL
open Go.RowKit
section
variable {P : Program} {f : FuncId} {args : List AV} {ids : List Nat}
theorem Own_congr {h h' : Hp} {G : Ctx} (hh : ∀ i, (hget h i).map names = (hget h' i).map names) : Own h G = Own h' G := by
  have one : ∀ {h h' : Hp}, (∀ i, (hget h i).map names = (hget h' i).map names) → ∀ b, Own h G b → Own h' G b := by
    intro h h' hh b ⟨i, o, h1, j, hj, hb⟩
    have := hh i
    rw [h1] at this
    cases hq : hget h' i with
    | none => rw [hq] at this; cases this
    | some o' =>
      rw [hq] at this
      simp only [Option.map_some, Option.some.injEq] at this
      exact ⟨i, o', hq, j, by rw [← this]; exact hj, hb⟩
  funext b
  exact propext ⟨one hh b, one (fun i => (hh i).symm) b⟩
theorem AC.heap {h h' : Hp} {R : AV → Hp → Prop} (H : AC P f args h ids R) (hh : ∀ i, hget h i = hget h' i) : AC P f args h' ids R := by
  have hO : ∀ G, Own h G = Own h' G := fun G => Own_congr (fun i => by rw [hh])
  refine ⟨H.1, fun w X G vs r hl hv => ?_⟩
  have ho : org w X h G ids 0 = org w X h' G ids 0 := by unfold org; rw [hO]
  have h2 := H.2 w X G vs
  rw [ho] at h2
  have hX : XX (org w X h' G ids 0) h G = XX (org w X h' G ids 0) h' G := by unfold XX; rw [hO]
  refine h2 (r.weak (fun t => .inl rfl) (fun i o e => by rw [← hh]; exact e)) hl (fun i x v h3 h4 => ?_)
  rw [hX]
  exact hv i x v h3 h4
end
end Go.SL
