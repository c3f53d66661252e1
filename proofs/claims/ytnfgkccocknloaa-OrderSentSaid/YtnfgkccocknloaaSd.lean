/- The layer 'SL': maps. -/
import Derived.Test.YtnfgkccocknloaaSc
import Derived.MapKept
import Derived.WideMake
namespace Go.SL
open Go.RowKit Go.MapKept

def keyB : TypeDesc → Value → Bool
  | .string, .string _ => true
  | .int a, .int b _ => a == b
  | .bool, .bool _ => true
  | _, _ => false
def keq : Value → Value → Bool
  | .string a, .string b => a == b
  | .int _ a, .int _ b => a == b
  | .bool a, .bool b => a == b
  | _, _ => false
/-- where a key stands, and what it bears -/
def mat (k : Value) : List (Value × AV) → Nat → Option (Nat × AV)
  | [], _ => none
  | (k', c) :: r, i => bif keq k k' then some (i, c) else mat k r (i + 1)
def mfind (k : Value) (es : List (Value × AV)) : Option AV := (mat k es 0).map (·.2)
def mput (k : Value) (c : AV) (es : List (Value × AV)) : List (Value × AV) :=
  match mat k es 0 with
  | some (i, _) => es.set i (k, c)
  | none => es ++ [(k, c)]

def TD.key : TD → Option TypeDesc
  | .string => some .string
  | .int k => some (.int k)
  | .bool => some .bool
  | _ => none
def Tab.keyD {P : Program} (T : Tab P) (t : Nat) : Option TypeDesc := match T.desc t with | some d => d.key | none => none
theorem keyD_ok {P : Program} {T : Tab P} {t : Nat} {d : TypeDesc} (h : T.keyD t = some d) : P.underlying t = some d := by
  unfold Tab.keyD at h
  cases hd : T.desc t with
  | none => rw [hd] at h; cases h
  | some x =>
    rw [hd] at h
    have := T.desc_ok hd
    cases x <;> cases h <;> exact this
theorem keyB_isKey {d : TypeDesc} {k : Value} (h : keyB d k = true) : IsKey d k := by
  cases d <;> cases k <;> simp_all [keyB, IsKey]
theorem sameNow_keq {d : TypeDesc} {k k' : Value} (h : keyB d k = true) (h' : keyB d k' = true) : Instr.sameNow d k k' = some (keq k k') := by
  cases d <;> cases k <;> simp_all [keyB] <;> cases k' <;> simp_all [Instr.sameNow, keq]
theorem keq_eq {d : TypeDesc} {k k' : Value} (h : keyB d k = true) (h' : keyB d k' = true) (e : keq k k' = true) : k = k' := by
  cases d <;> cases k <;> simp_all [keyB] <;> cases k' <;> simp_all [keq, bytes_beq]
theorem findNow_mat {d : TypeDesc} {k : Value} (hk : keyB d k = true) : ∀ (es : List (Value × AV)) (l : List MapEntry) (i : Nat), (∀ p ∈ es, keyB d p.1 = true) → l.length = es.length →
    (∀ (j : Nat) (p : Value × AV) (e : MapEntry), es[j]? = some p → l[j]? = some e → e.key = p.1) →
    ∃ r, Instr.findNow d k l i = some r ∧ match mat k es i with
      | some (j, c) => i ≤ j ∧ ∃ e k', l[j - i]? = some e ∧ es[j - i]? = some (k', c) ∧ r = some (j, e.val) ∧ k' = k
      | none => r = none
  | [], [], i, _, _, _ => ⟨none, rfl, rfl⟩
  | [], _ :: _, _, _, h, _ => by simp at h
  | _ :: _, [], _, _, h, _ => by simp at h
  | (k', c) :: es, e :: l, i, hb, hl, he => by
    have hk' : e.key = k' := he 0 (k', c) e rfl rfl
    have hb' : keyB d k' = true := hb (k', c) (by simp)
    unfold Instr.findNow mat
    rw [hk', sameNow_keq hk hb']
    cases hq : keq k k'
    · obtain ⟨r, h1, h2⟩ := findNow_mat hk es l (i + 1) (fun p hp => hb p (by simp [hp])) (by simpa using hl) (fun j p e hj hj' => he (j + 1) p e (by simpa using hj) (by simpa using hj'))
      refine ⟨r, h1, ?_⟩
      rw [cond_false]
      cases hm : mat k es (i + 1) with
      | none => rw [hm] at h2; exact h2
      | some q =>
        obtain ⟨j, c'⟩ := q
        rw [hm] at h2
        obtain ⟨g1, e', k'', g2, g3, g4, g5⟩ := h2
        refine ⟨by omega, e', k'', ?_, ?_, g4, g5⟩
        · rw [show j - i = (j - (i + 1)) + 1 by omega]; simpa using g2
        · rw [show j - i = (j - (i + 1)) + 1 by omega]; simpa using g3
    · refine ⟨some (i, e.val), rfl, ?_⟩
      rw [cond_true]
      exact ⟨Nat.le_refl i, e, k', by simp, by simp, rfl, (keq_eq hk hb' hq).symm⟩

section
variable {P : Program} {O : Org} {T : Tab P} {Q : Exit → Env → Hp → Prop} {env : Env} {h : Hp} {all rest : List Oper} {o : Oper} {rs : List Rc}

theorem LStep_makeMap0 {t kt et id : Nat} {rv : Option Operand} (ho : o.op = .makeMap t rv) (hd : o.dst = some id) (hn : dstOk (some id) O.nt = true) (hi : O.ids.contains id = false)
    (hr : ∀ env' (h' : Hp) a w G, (∀ x ∈ o.op.operands.toList, evalA env' x = evalA env x) → Rel O env' h' a w G → (Instr.makeMap t (rv.map a.eval)).run P w = .ok (.map (some w.heap.size)) (w.alloc (.map #[] 0))) :
    LStep P O o env h [] [id] (.mp id) [(id, some (.map kt et [] none))] := by
  intro env' h' he _ hf a w G r K Q hK
  have hf' := hf id (by simp)
  have hid : id ∉ O.ids := by simpa using hi
  have hrun : (execOp a.eval o).run P w = .ok (.value (.map (some w.heap.size))) (w.alloc (.map #[] 0)) := by
    simp [execOp, ho, hr env' h' a w G he r]
  have r' := r.new (ob := .map #[] 0) (id := id) (mv := .map (some w.heap.size)) (n := 0) (o := .map kt et [] none) hf' hid rfl (fun b hb => by cases hb; rfl)
    ⟨w.heap.size, #[], 0, G.set_m _ _ _, (heap_alloc w _).1, rfl, fun i k c e hi => by simp at hi, fun i j e e' hi => by simp at hi, fun e he => by simp at he, trivial⟩
  exact wp_value hrun (hK _ _ _ (r'.put (by rw [hd]; exact hn) (.mp id w.heap.size (G.set_m _ _ _))))
theorem LStep_makeMap {t kt et id : Nat} (ho : o.op = .makeMap t none) (hd : o.dst = some id) (hn : dstOk (some id) O.nt = true) (hi : O.ids.contains id = false) : LStep P O o env h [] [id] (.mp id) [(id, some (.map kt et [] none))] :=
  LStep_makeMap0 ho hd hn hi (fun _ _ _ _ _ _ _ => rfl)
theorem LStep_makeMapN {t kt et id : Nat} {x : Operand} {kd : IntKind} {n : Int} (ho : o.op = .makeMap t (some x)) (hd : o.dst = some id) (hn : dstOk (some id) O.nt = true) (hi : O.ids.contains id = false) (hT : T.desc t = some (.map kt et))
    (hx : evalA env x = .d (.sc (.int kd n))) : LStep P O o env h [] [id] (.mp id) [(id, some (.map kt et [] none))] :=
  LStep_makeMap0 ho hd hn hi (fun env' h' a w G he r => by
    have h1 := evalA_rep r.env x
    rw [he x (by simp [ho, Op.operands]), hx] at h1
    simp [Instr.makeMap, run_underlying (T.desc_ok hT), h1.sc_inv, asInt, asIntOf])

/-- what a look-up finds -/
theorem map_at {a : Act} {w : World} {G : Ctx} {env' : Env} {h' : Hp} (r : Rel O env' h' a w G) {id kt et : Nat} {es : List (Value × AV)} {it : Option (Nat × List Value × Option Value)} (hh : hget h' id = some (.map kt et es it)) {d : TypeDesc} {k : Value} (hk : keyB d k = true)
    (hb : ∀ p ∈ es, keyB d p.1 = true) : ∃ b ents clock, G.m id = .map (some b) ∧ w.heap[b]? = some (.map ents clock) ∧ ∃ q, Instr.findNow d k ents.toList 0 = some q ∧ match mat k es 0 with
      | some (j, c) => ∃ e, ents[j]? = some e ∧ es[j]? = some (k, c) ∧ q = some (j, e.val) ∧ e.key = k ∧ Rep w (XX O h' G) G c e.val ∧ noid c = true
      | none => q = none := by
  obtain ⟨b, ents, clock, e1, e2, e3, e4, _⟩ := r.obj id _ hh
  obtain ⟨q, f1, f2⟩ := findNow_mat hk es ents.toList 0 hb (by simpa using e3) (fun j p e hj hj' => (e4 j p.1 p.2 e hj (by rw [← Array.getElem?_toList]; exact hj')).1)
  refine ⟨b, ents, clock, e1, e2, q, f1, ?_⟩
  cases hm : mat k es 0 with
  | none => rw [hm] at f2; exact f2
  | some p =>
    obtain ⟨j, c⟩ := p
    rw [hm] at f2
    obtain ⟨_, e, k', g1, g2, g3, rfl⟩ := f2
    rw [Nat.sub_zero] at g1 g2
    rw [Array.getElem?_toList] at g1
    have := e4 j k' c e g2 g1
    exact ⟨e, g1, g2, g3, this.1, this.2.1, this.2.2⟩

variable {t kt et id : Nat} {x i : Operand} {es : List (Value × AV)} {it : Option (Nat × List Value × Option Value)} {dk : TypeDesc} {k : Value} {c : AV}
/-- found -/
theorem LStep_lookup (ho : o.op = .lookup t x i false) (hd : dstOk o.dst O.nt = true) (hT : T.desc t = some (.map kt et)) (hK : T.keyD kt = some dk) (hx : evalA env x = .mp id) (hi : evalA env i = .d (.sc k)) (hk : keyB dk k = true)
    (hh : hget h id = some (.map kt et es it)) (hb : ∀ p ∈ es, keyB dk p.1 = true) (hf : mfind k es = some c) : LStep P O o env h [id] [] c [] := by
  intro env' h' he hTs _ a w G r K Q hKK
  have h1 := evalA_rep r.env x
  have h2 := evalA_rep r.env i
  rw [he x (by simp [ho, Op.operands]), hx] at h1
  rw [he i (by simp [ho, Op.operands]), hi] at h2
  obtain ⟨b, ents, clock, e1, e2, q, f1, f2⟩ := map_at r ((hTs id (by simp)).trans hh) hk hb
  unfold mfind at hf
  cases hm : mat k es 0 with
  | none => rw [hm] at hf; cases hf
  | some p =>
    obtain ⟨j, c'⟩ := p
    rw [hm] at hf f2
    simp only [Option.map_some, Option.some.injEq] at hf
    subst hf
    obtain ⟨e, g1, g2, rfl, g4, g5, g6⟩ := f2
    generalize hv : a.eval x = v at h1
    cases h1 with
    | mp _ b' hb' =>
      obtain rfl : b = b' := by rw [e1] at hb'; cases hb'; rfl
      refine wp_value (v := e.val) (w' := w) ?_ (hKK _ w G (r.put hd g5))
      simp [execOp, ho, hv, h2.sc_inv, Instr.lookup, run_underlying (T.desc_ok hT), Go.MapKept.run_getObj_map e2, run_checkKey (keyD_ok hK) (keyB_isKey hk), run_findKey (keyD_ok hK) f1]
/-- not there: the zero value -/
theorem LStep_lookup0 {v : Value} (ho : o.op = .lookup t x i false) (hd : dstOk o.dst O.nt = true) (hT : T.desc t = some (.map kt et)) (hK : T.keyD kt = some dk) (hx : evalA env x = .mp id) (hi : evalA env i = .d (.sc k)) (hk : keyB dk k = true)
    (hh : hget h id = some (.map kt et es it)) (hb : ∀ p ∈ es, keyB dk p.1 = true) (hz : (lkT T.inf et).map (·.2.2) = some v) (h1 : v.oneCell' = true) (hf : mfind k es = none) : LStep P O o env h [id] [] (.d (.sc v)) [] := by
  intro env' h' he hTs _ a w G r K Q hKK
  have h1' := evalA_rep r.env x
  have h2 := evalA_rep r.env i
  rw [he x (by simp [ho, Op.operands]), hx] at h1'
  rw [he i (by simp [ho, Op.operands]), hi] at h2
  obtain ⟨b, ents, clock, e1, e2, q, f1, f2⟩ := map_at r ((hTs id (by simp)).trans hh) hk hb
  unfold mfind at hf
  cases hm : mat k es 0 with
  | some p => rw [hm] at hf; cases hf
  | none =>
    rw [hm] at f2
    subst f2
    have hzr : (zeroValue et).run P w = .ok v w := by
      cases hl : lkT T.inf et with
      | none => rw [hl] at hz; cases hz
      | some p =>
        obtain ⟨s, b, z⟩ := p
        rw [hl] at hz
        cases hz
        obtain ⟨i, e1, _, _, e4⟩ := T.inf_ok _ (lkT_mem hl)
        simp [zeroValue, typeInfo, e1, e4]
    generalize hv : a.eval x = v' at h1'
    cases h1' with
    | mp _ b' hb' =>
      obtain rfl : b = b' := by rw [e1] at hb'; cases hb'; rfl
      refine wp_value (v := v) (w' := w) ?_ (hKK _ w G (r.put hd (.d _ _ (.sc _ h1))))
      simp [execOp, ho, hv, h2.sc_inv, Instr.lookup, run_underlying (T.desc_ok hT), Go.MapKept.run_getObj_map e2, run_checkKey (keyD_ok hK) (keyB_isKey hk), run_findKey (keyD_ok hK) f1, hzr]
/-- with ', ok' -/
theorem LStep_lookupOk (ho : o.op = .lookup t x i true) (hd : dstOk o.dst O.nt = true) (hT : T.desc t = some (.map kt et)) (hK : T.keyD kt = some dk) (hx : evalA env x = .mp id) (hi : evalA env i = .d (.sc k)) (hk : keyB dk k = true)
    (hh : hget h id = some (.map kt et es it)) (hb : ∀ p ∈ es, keyB dk p.1 = true) (hf : mfind k es = some c) : LStep P O o env h [id] [] (.tup [c, .d (.sc (.bool true))]) [] := by
  intro env' h' he hTs _ a w G r K Q hKK
  have h1 := evalA_rep r.env x
  have h2 := evalA_rep r.env i
  rw [he x (by simp [ho, Op.operands]), hx] at h1
  rw [he i (by simp [ho, Op.operands]), hi] at h2
  obtain ⟨b, ents, clock, e1, e2, q, f1, f2⟩ := map_at r ((hTs id (by simp)).trans hh) hk hb
  unfold mfind at hf
  cases hm : mat k es 0 with
  | none => rw [hm] at hf; cases hf
  | some p =>
    obtain ⟨j, c'⟩ := p
    rw [hm] at hf f2
    simp only [Option.map_some, Option.some.injEq] at hf
    subst hf
    obtain ⟨e, g1, g2, rfl, g4, g5, g6⟩ := f2
    generalize hv : a.eval x = v at h1
    cases h1 with
    | mp _ b' hb' =>
      obtain rfl : b = b' := by rw [e1] at hb'; cases hb'; rfl
      refine wp_value (v := .tuple #[e.val, .bool true]) (w' := w) ?_ (hKK _ w G (r.put hd (.tup _ _ rfl (fun n y u hy hu => ?_))))
      · simp [execOp, ho, hv, h2.sc_inv, Instr.lookup, run_underlying (T.desc_ok hT), Go.MapKept.run_getObj_map e2, run_checkKey (keyD_ok hK) (keyB_isKey hk), run_findKey (keyD_ok hK) f1]
      · match n, hy, hu with
        | 0, hy, hu => simp at hy hu; subst hy; subst hu; exact g5
        | 1, hy, hu => simp at hy hu; subst hy; subst hu; exact .d _ _ (.sc _ rfl)
        | n + 2, hy, _ => simp at hy
theorem LStep_lookupNo {cs : List AV} (ho : o.op = .lookup t x i true) (hd : dstOk o.dst O.nt = true) (hT : T.desc t = some (.map kt et)) (hK : T.keyD kt = some dk) (hx : evalA env x = .mp id) (hi : evalA env i = .d (.sc k)) (hk : keyB dk k = true)
    (hh : hget h id = some (.map kt et es it)) (hb : ∀ p ∈ es, keyB dk p.1 = true) (hz : T.zeroC et = some cs) (hf : mfind k es = none) : LStep P O o env h [id] [] (.tup [.any, .d (.sc (.bool false))]) [] := by
  intro env' h' he hTs _ a w G r K Q hKK
  have h1 := evalA_rep r.env x
  have h2 := evalA_rep r.env i
  rw [he x (by simp [ho, Op.operands]), hx] at h1
  rw [he i (by simp [ho, Op.operands]), hi] at h2
  obtain ⟨b, ents, clock, e1, e2, q, f1, f2⟩ := map_at r ((hTs id (by simp)).trans hh) hk hb
  unfold mfind at hf
  cases hm : mat k es 0 with
  | some p => rw [hm] at hf; cases hf
  | none =>
    rw [hm] at f2
    subst f2
    obtain ⟨z, hz, _⟩ := zeroC_run hz w
    generalize hv : a.eval x = v at h1
    cases h1 with
    | mp _ b' hb' =>
      obtain rfl : b = b' := by rw [e1] at hb'; cases hb'; rfl
      refine wp_value (v := .tuple #[z, .bool false]) (w' := w) ?_ (hKK _ w G (r.put hd (.tup _ _ rfl (fun n y u hy hu => ?_))))
      · simp [execOp, ho, hv, h2.sc_inv, Instr.lookup, run_underlying (T.desc_ok hT), Go.MapKept.run_getObj_map e2, run_checkKey (keyD_ok hK) (keyB_isKey hk), run_findKey (keyD_ok hK) f1, hz]
      · match n, hy, hu with
        | 0, hy, hu => simp at hy hu; subst hy; exact .any _
        | 1, hy, hu => simp at hy hu; subst hy; subst hu; exact .d _ _ (.sc _ rfl)
        | n + 2, hy, _ => simp at hy
end
end Go.SL
