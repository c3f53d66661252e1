/- The layer 'SL': maps: what is not there. -/
import Derived.Test.YtglkilmflohfoaaDoorSk
namespace Go.SL
open Go.RowKit Go.MapKept

def zAV : Value → Option AV
  | .agg vs => if vs.toList.all (fun v => v.oneCell') then some (.agg (vs.toList.map fun v => .d (.sc v))) else none
  | .tuple _ => none
  | v => some (.d (.sc v))
theorem zAV_rep {z : Value} {av : AV} (h : zAV z = some av) {w : World} {X : Nat → Prop} {G : Ctx} : Rep w X G av z := by
  cases z with
  | agg vs =>
    unfold zAV at h
    simp only at h
    split at h
    · rename_i ha
      cases h
      rw [List.all_eq_true] at ha
      refine .agg _ _ (by simp) (fun i c v hc hv => ?_) (fun i v hv => ha v (List.mem_of_getElem? (by rw [Array.getElem?_toList]; exact hv)))
      simp only [List.getElem?_map, Array.getElem?_toList, hv, Option.map_some, Option.some.injEq] at hc
      subst hc
      exact .d _ _ (.sc _ (ha v (List.mem_of_getElem? (by rw [Array.getElem?_toList]; exact hv))))
    · cases h
  | tuple => cases h
  | _ => cases h; exact .d _ _ (.sc _ rfl)
section
variable {P : Program} {O : Org} {T : Tab P} {Q : Exit → Env → Hp → Prop} {env : Env} {h hp : Hp} {o : Oper}
variable {t kt et id : Nat} {x i : Operand} {k : Value} {dk : KK} {es : List (Value × AV)} {it : Option (Nat × List Value × Option Value)}
theorem zero_run {et : Nat} {z : Value} (hz : (lkT T.inf et).map (·.2.2) = some z) (w : World) : (zeroValue et).run P w = .ok z w := by
  cases h1 : lkT T.inf et with
  | none => rw [h1] at hz; cases hz
  | some p =>
    obtain ⟨s, b, z'⟩ := p
    rw [h1] at hz
    cases hz
    obtain ⟨i, e1, _, _, e4⟩ := T.inf_ok _ (lkT_mem h1)
    simp [zeroValue, typeInfo, e1, e4]
theorem LStep_lookupNoZ {z : Value} {zv : AV} (ho : o.op = .lookup t x i true) (hd : dstOk o.dst O.nt = true) (hT : T.desc t = some (.map kt et)) (hK : T.keyD kt = some dk) (hx : evalA env x = .mp id) (hi : keyV (evalA env i) = some k) (hk : keyB dk k = true)
    (hh : hget h id = some (.map kt et es it)) (hz : (lkT T.inf et).map (·.2.2) = some z) (hzv : zAV z = some zv) (hb : ∀ p ∈ es, keyB dk p.1 = true) (hf : mfind k es = none) : LStep P O o env h [id] [] (.tup [zv, .d (.sc (.bool false))]) [] := by
  intro env' h' he hTs _ a w G r K Q hKK
  have h1 := evalA_rep r.env x
  have h2 := evalA_rep r.env i
  rw [he x (by simp [ho, Op.operands]), hx] at h1
  rw [he i (by simp [ho, Op.operands])] at h2
  replace h2 := keyV_rep hi h2
  obtain ⟨b, ents, clock, e1, e2, q, f1, f2⟩ := map_at r ((hTs id (by simp)).trans hh) hK hk hb
  unfold mfind at hf
  cases hm : mat k es 0 with
  | some p => rw [hm] at hf; cases hf
  | none =>
    rw [hm] at f2
    subst f2
    have hz' := zero_run (P := P) hz w
    generalize hv : a.eval x = v at h1
    cases h1 with
    | mp _ b' hb' =>
      obtain rfl : b = b' := by rw [e1] at hb'; cases hb'; rfl
      refine wp_value (v := .tuple #[z, .bool false]) (w' := w) ?_ (hKK _ w G (r.put hd (.tup _ _ rfl (fun n y u hy hu => ?_))))
      · simp [execOp, ho, hv, h2, Instr.lookup, run_underlying (T.desc_ok hT), Go.MapKept.run_getObj_map e2, chk_run hK hk, f1, hz']
      · match n, hy, hu with
        | 0, hy, hu => simp at hy hu; subst hy; subst hu; exact zAV_rep hzv
        | 1, hy, hu => simp at hy hu; subst hy; subst hu; exact .d _ _ (.sc _ rfl)
        | n + 2, hy, _ => simp at hy
/-! ### tests that are decided; Bools compared -/
theorem LStep_eqlT {tt yt : Nat} {x y : Operand} {k : IntKind} {a b : Int} (ho : o.op = .binOp .eql tt x y yt) (hx : evalA env x = .d (.sc (.int k a))) (hy : evalA env y = .d (.sc (.int k b))) (hd : dstOk o.dst O.nt = true) (h : a = b) : LStep P O o env hp [] [] (.d (.sc (.bool true))) [] := by
  have hb : binA .eql (evalA env x) (evalA env y) = some (.d (.sc (.bool (eqb a b)))) := by rw [hx, hy]; simp [binA]
  rw [eqb_t.2 h] at hb
  exact LStep_binOp hd ho hb
end
/-! ### nil handed in -/
inductive CoeA : AV → AV → Prop
  | refl (x : AV) : CoeA x x
  | nil (sz : Nat) : CoeA (.d (.sc (.slice none 0 0))) (.d (.sl sz []))
def CoeL : List AV → List AV → Prop
  | [], [] => True
  | x :: xs, y :: ys => CoeA x y ∧ CoeL xs ys
  | _, _ => False
theorem CoeA.rep {x y : AV} (h : CoeA x y) {w : World} {X : Nat → Prop} {G : Ctx} {v : Value} (hr : Rep w X G x v) : Rep w X G y v := by
  cases h with
  | refl => exact hr
  | nil sz =>
    rw [hr.sc_inv]
    exact .d _ _ (.sl sz [] none 0 0 0 0 (fun _ _ => undef) rfl (Nat.le_refl _) (fun h => absurd h (by omega)) (fun i e h => by simp at h) (fun i e h => by simp at h) (fun i e h => by simp at h))
theorem CoeL.at : ∀ {xs ys : List AV}, CoeL xs ys → xs.length = ys.length ∧ ∀ (i : Nat) (y : AV), ys[i]? = some y → ∃ x, xs[i]? = some x ∧ CoeA x y
  | [], [], _ => ⟨rfl, fun i y h => by simp at h⟩
  | x :: xs, y :: ys, h => by
    obtain ⟨h1, h2⟩ := CoeL.at h.2
    refine ⟨by simp [h1], fun i z hz => ?_⟩
    cases i with
    | zero => simp at hz; subst hz; exact ⟨x, rfl, h.1⟩
    | succ i => exact h2 i z (by simpa using hz)
end Go.SL
