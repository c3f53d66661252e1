/- The layer 'SL': one operation. -/
import Derived.Test.YtglkilmflohfoaaDoorS2
namespace Go.SL
open Go.RowKit

/-- A type, as far as it is wanted. -/
inductive TD where
  | bool
  | int (k : IntKind)
  | string
  | slice (e : Nat)
  | array (n e : Nat)
  | map (k e : Nat)
  | ptr (e : Nat)
  | struct (fs : List (Nat × Nat))
  | other
def TD.Ok (P : Program) (t : Nat) : TD → Prop
  | .bool => P.underlying t = some .bool
  | .int k => P.underlying t = some (.int k)
  | .string => P.underlying t = some .string
  | .slice e => P.underlying t = some (.slice e)
  | .array n e => P.underlying t = some (.array n e)
  | .map k e => P.underlying t = some (.map k e)
  | .ptr e => P.underlying t = some (.pointer e)
  | .struct l => ∃ fs, P.underlying t = some (.struct fs) ∧ fs.toList.map (fun f => (f.offset, f.type)) = l
  | .other => ∃ d, P.underlying t = some d ∧ match d with | .struct _ | .array _ _ => False | _ => True

/-- The program's types, by look-up. -/
structure Tab (P : Program) where
  und : List (Nat × TD)
  inf : List (Nat × Nat × Nat × Value)
  und_ok : ∀ p ∈ und, TD.Ok P p.1 p.2
  inf_ok : ∀ p ∈ inf, ∃ i, P.info? p.1 = some i ∧ i.size = p.2.1 ∧ i.bytes = p.2.2.1 ∧ i.zero = some p.2.2.2

def lkT {α : Type} : List (Nat × α) → Nat → Option α
  | [], _ => none
  | (t, v) :: r, s => bif Nat.beq t s then some v else lkT r s
theorem lkT_mem {α : Type} : ∀ {l : List (Nat × α)} {s : Nat} {v : α}, lkT l s = some v → (s, v) ∈ l
  | [], _, _, h => by simp [lkT] at h
  | (t, u) :: r, s, v, h => by
    have h' : (bif Nat.beq t s then some u else lkT r s) = some v := h
    cases hb : Nat.beq t s with
    | true =>
      rw [hb] at h'
      have e : u = v := by simpa using h'
      have := Nat.eq_of_beq_eq_true hb
      subst this; subst e
      exact List.mem_cons_self
    | false =>
      rw [hb] at h'
      exact List.mem_cons_of_mem _ (lkT_mem h')

/-- what holds of each of a list, as a chain -/
def AllOf {α : Type} (p : α → Prop) : List α → Prop
  | [] => True
  | a :: l => p a ∧ AllOf p l
theorem allOf {α : Type} {p : α → Prop} : ∀ (l : List α), AllOf p l → ∀ a ∈ l, p a
  | [], _, _, h => by simp at h
  | b :: l, h, a, hm => by
    rcases List.mem_cons.1 hm with e | hm
    · exact e ▸ h.1
    · exact allOf l h.2 a hm
theorem infOf {P : Program} : ∀ (l : List (Nat × Nat × Nat × Value)), (l.map fun p => (P.info? p.1).map fun i => (i.size, i.bytes, i.zero)) = l.map (fun p => some (p.2.1, p.2.2.1, some p.2.2.2)) →
    ∀ p ∈ l, ∃ i, P.info? p.1 = some i ∧ i.size = p.2.1 ∧ i.bytes = p.2.2.1 ∧ i.zero = some p.2.2.2
  | [], _, _, h => by simp at h
  | b :: l, h, a, hm => by
    simp only [List.map_cons, List.cons.injEq] at h
    rcases List.mem_cons.1 hm with e | hm
    · subst e
      cases hi : P.info? a.1 with
      | none => rw [hi] at h; cases h.1
      | some i =>
        rw [hi] at h
        simp only [Option.map_some, Option.some.injEq, Prod.mk.injEq] at h
        exact ⟨i, rfl, h.1.1, h.1.2.1, h.1.2.2⟩
    · exact infOf l h.2 a hm

section
variable {P : Program} (T : Tab P)
def Tab.desc (t : Nat) : Option TD := lkT T.und t
def Tab.size (t : Nat) : Option Nat := (lkT T.inf t).map (·.1)
theorem Tab.desc_ok {t : Nat} {d : TD} (h : T.desc t = some d) : TD.Ok P t d := T.und_ok _ (lkT_mem h)
theorem Tab.size_ok {t n : Nat} (h : T.size t = some n) : ∃ i, P.info? t = some i ∧ i.size = n := by
  unfold Tab.size at h
  cases h' : lkT T.inf t with
  | none => rw [h'] at h; cases h
  | some q =>
    rw [h'] at h
    obtain ⟨i, h1, h2, _⟩ := T.inf_ok _ (lkT_mem h')
    exact ⟨i, h1, by rw [h2]; simpa using h⟩
/-- the struct's field: its offset, its size (not nought) -/
def Tab.fld (s k : Nat) : Option (Nat × Nat) :=
  match T.desc s with
  | some (.struct fs) => match fs[k]? with
    | some (off, ft) => match T.size ft with
      | some (n + 1) => some (off, n + 1)
      | _ => none
    | none => none
  | _ => none
/-- is it a struct or an array? -/
def Tab.agg (t : Nat) : Option Bool :=
  match T.desc t with
  | some (.struct _) | some (.array _ _) => some true
  | some _ => some false
  | none => none
end

def upd (env : Env) (d : Option Nat) (v : AV) : Env := match d with | some t => (t, v) :: env | none => env
def dstOk (d : Option Nat) (n : Nat) : Bool := match d with | some t => Nat.blt t n | none => true

def freshO (id : Nat) : AObj → Bool
  | .cells cs => fresh.freshL id cs
  | .tcl _ cs => fresh.freshL id cs
  | .arr _ _ _ => true
  | .map _ _ _ it => match it with | some (i, _) => !(Nat.beq id i) | none => true
  | .mapF _ _ _ => true
  | .mapS _ _ _ _ _ it => match it with | some (i, _) => !(Nat.beq id i) | none => true
  | .raw _ _ => true
  | .mapP _ _ _ => true
  | .nx _ _ _ _ _ dt it => Nat.blt id 1000000 && ((match dt with | some (_, j, _) => !(Nat.beq id j) | none => true) && (match it with | some (i, _) => !(Nat.beq id i) | none => true))
def freshAt (id : Nat) (env : Env) (h : Hp) : Prop := (∀ t, fresh id (lk env t) = true) ∧ (∀ j o, hget h j = some o → freshO id o = true) ∧ hget h id = none

/-- One operation, wherever its operands, and the objects that it touches (Ts), are such; the names Ns are new. -/
def LStep (P : Program) (O : Org) (o : Oper) (env : Env) (h : Hp) (Ts Ns : List Nat) (av : AV) (u : Hp) : Prop :=
  ∀ env' h', (∀ x ∈ o.op.operands.toList, evalA env' x = evalA env x) → (∀ id ∈ Ts, hget h' id = hget h id) → (∀ id ∈ Ns, freshAt id env' h') →
    ∀ a w G, Rel O env' h' a w G → ∀ (K : Act → World → Prop) (Q : Exit → Act → World → Prop),
      (∀ v w' G', Rel O (upd env' o.dst av) (u ++ h') (a.put o.dst v) w' G' → K (a.put o.dst v) w') → o.wp P a w K Q

theorem wp_value {P : Program} {o : Oper} {a : Act} {w w' : World} {K : Act → World → Prop} {Q : Exit → Act → World → Prop} {v : Value}
    (hr : (execOp a.eval o).run P w = .ok (.value v) w') (hk : K (a.put o.dst v) w') : o.wp P a w K Q := by
  unfold Oper.wp; rw [hr]; exact hk
theorem wp_skipped {P : Program} {o : Oper} {a : Act} {w w' : World} {K : Act → World → Prop} {Q : Exit → Act → World → Prop}
    (hr : (execOp a.eval o).run P w = .ok .skip w') (hk : K (a.put o.dst undef) w') : o.wp P a w K Q := by
  unfold Oper.wp; rw [hr]; exact hk

theorem put_get (a : Act) (d : Nat) (v : Value) (t : Nat) (hd : d < a.tmps.size) : (a.put (some d) v).tmps.getD t undef = if t = d then v else a.tmps.getD t undef := by
  simp only [Act.put, Array.getD_eq_getD_getElem?, Array.getElem?_setIfInBounds]
  by_cases h : d = t
  · subst h; simp [hd]
  · rw [if_neg h, if_neg (fun e => h e.symm)]

theorem Rel.put {O : Org} {env : Env} {h : Hp} {a : Act} {w : World} {G : Ctx} (r : Rel O env h a w G) {d : Option Nat} {av : AV} {v : Value} (hd : dstOk d O.nt = true) (hv : Rep w (XX O h G) G av v) :
    Rel O (upd env d av) h (a.put d v) w G := by
  cases d with
  | none => exact r
  | some d =>
    have hlt : d < a.tmps.size := by rw [r.size]; exact of_decide_eq_true (by simpa [dstOk, Nat.blt_eq] using hd)
    refine ⟨by simpa [Act.put] using r.size, r.dfr, fun t => ?_, r.obj, r.dist, r.ext, r.own, r.xlt, r.ids⟩
    rw [put_get a d v t hlt]
    show Rep w (XX O h G) G (lk ((d, av) :: env) t) _
    rw [lk_cons]
    by_cases e : d = t
    · subst e; rw [if_pos rfl, if_pos rfl]; exact hv
    · rw [if_neg e, if_neg (fun h => e h.symm)]; exact r.env t

/-! ### what is reckoned: behind names that unification does not open -/
def ltb (a b : Int) : Bool := decide (a < b)
def leb (a b : Int) : Bool := decide (a ≤ b)
def eqb (a b : Int) : Bool := decide (a = b)
def eqs (a b : ByteArray) : Bool := decide (a = b)
def lts (a b : ByteArray) : Bool := Op.bytesLess a.toList b.toList
def wrp (k : IntKind) (n : Int) : Int := k.wrap n
theorem ltb_t {a b : Int} : (ltb a b = true) ↔ a < b := by simp [ltb]
theorem ltb_f {a b : Int} : (ltb a b = false) ↔ b ≤ a := by simp [ltb]
theorem leb_t {a b : Int} : (leb a b = true) ↔ a ≤ b := by simp [leb]
theorem leb_f {a b : Int} : (leb a b = false) ↔ b < a := by simp [leb]
theorem eqb_t {a b : Int} : (eqb a b = true) ↔ a = b := by simp [eqb]
theorem eqb_f {a b : Int} : (eqb a b = false) ↔ a ≠ b := by simp [eqb]
theorem eqs_t {a b : ByteArray} : (eqs a b = true) ↔ a = b := by simp [eqs]
theorem eqs_f {a b : ByteArray} : (eqs a b = false) ↔ a ≠ b := by simp [eqs]
theorem ltb_d (a b : Int) : ltb a b = decide (a < b) := rfl
theorem leb_d (a b : Int) : leb a b = decide (a ≤ b) := rfl
theorem eqb_d (a b : Int) : eqb a b = decide (a = b) := rfl
theorem eqs_d (a b : ByteArray) : eqs a b = decide (a = b) := rfl
theorem lts_d (a b : ByteArray) : lts a b = Op.bytesLess a.toList b.toList := rfl
theorem wrp_d (k : IntKind) (n : Int) : wrp k n = k.wrap n := rfl
attribute [irreducible] ltb leb eqb eqs lts wrp
theorem not_t {b : Bool} : ((!b) = true) ↔ b = false := by cases b <;> simp
theorem not_f {b : Bool} : ((!b) = false) ↔ b = true := by cases b <;> simp
/-- The tests' simp set, as one name. -/
theorem cmps : (∀ a b : Int, (ltb a b = true) ↔ a < b) ∧ (∀ a b : Int, (ltb a b = false) ↔ b ≤ a) ∧ (∀ a b : Int, (leb a b = true) ↔ a ≤ b) ∧ (∀ a b : Int, (leb a b = false) ↔ b < a) ∧ (∀ a b : Int, (eqb a b = true) ↔ a = b) ∧
    (∀ a b : Int, (eqb a b = false) ↔ a ≠ b) ∧ (∀ a b : ByteArray, (eqs a b = true) ↔ a = b) ∧ (∀ a b : ByteArray, (eqs a b = false) ↔ a ≠ b) ∧ (∀ b : Bool, ((!b) = true) ↔ b = false) ∧ (∀ b : Bool, ((!b) = false) ↔ b = true) :=
  ⟨fun _ _ => ltb_t, fun _ _ => ltb_f, fun _ _ => leb_t, fun _ _ => leb_f, fun _ _ => eqb_t, fun _ _ => eqb_f, fun _ _ => eqs_t, fun _ _ => eqs_f, fun _ => not_t, fun _ => not_f⟩
theorem cmpL : (∀ a b : Int, (ltb a b = true) ↔ a < b) ∧ (∀ a b : Int, (ltb a b = false) ↔ b ≤ a) ∧ (∀ a b : Int, (leb a b = true) ↔ a ≤ b) ∧ (∀ a b : Int, (leb a b = false) ↔ b < a) ∧ (∀ a b : Int, (eqb a b = true) ↔ a = b) ∧
    (∀ a b : Int, (eqb a b = false) ↔ a ≠ b) ∧ (∀ b : Bool, ((!b) = true) ↔ b = false) ∧ (∀ b : Bool, ((!b) = false) ↔ b = true) ∧ (∀ (α β : Type) (f : α → β) (l : List α), (l.map f).length = l.length) ∧
    (∀ (α : Type) (a : α) (l : List α), (a :: l).length = l.length + 1) ∧ (∀ α : Type, ([] : List α).length = 0) :=
  ⟨fun _ _ => ltb_t, fun _ _ => ltb_f, fun _ _ => leb_t, fun _ _ => leb_f, fun _ _ => eqb_t, fun _ _ => eqb_f, fun _ => not_t, fun _ => not_f, fun _ _ _ _ => List.length_map _, fun _ _ _ => List.length_cons, fun _ => List.length_nil⟩

def binA (op : BinOp) (x y : AV) : Option AV :=
  match x, y with
  | .d (.sc (.int k a)), .d (.sc (.int k' b)) =>
    if k = k' then
      match op with
      | .add => some (.d (.sc (.int k (wrp k (a + b)))))
      | .sub => some (.d (.sc (.int k (wrp k (a - b)))))
      | .mul => some (.d (.sc (.int k (wrp k (a * b)))))
      | .eql => some (.d (.sc (.bool (eqb a b))))
      | .neq => some (.d (.sc (.bool (!eqb a b))))
      | .lss => some (.d (.sc (.bool (ltb a b))))
      | .leq => some (.d (.sc (.bool (leb a b))))
      | .gtr => some (.d (.sc (.bool (ltb b a))))
      | .geq => some (.d (.sc (.bool (leb b a))))
      | _ => none
    else none
  | .d (.sc (.string a)), .d (.sc (.string b)) =>
    match op with
    | .eql => some (.d (.sc (.bool (eqs a b))))
    | .neq => some (.d (.sc (.bool (!eqs a b))))
    | .lss => some (.d (.sc (.bool (lts a b))))
    | _ => none
  | _, _ => none

theorem ba_toList_inj {a b : ByteArray} : (a.toList == b.toList) = decide (a = b) := by
  rw [ByteArray.toList_eq, ByteArray.toList_eq]
  by_cases h : a = b
  · subst h; simp
  · rw [decide_eq_false h]
    refine beq_eq_false_iff_ne.2 (fun e => h ?_)
    cases a; cases b
    exact congrArg ByteArray.mk (Array.toList_inj.1 e)

section
variable {P : Program} (T : Tab P) {w : World}
theorem run_isAgg {t : Nat} {b : Bool} (h : T.agg t = some b) : (isAgg t).run P w = .ok b w := by
  unfold Tab.agg at h
  cases hd : T.desc t with
  | none => rw [hd] at h; cases h
  | some d =>
    rw [hd] at h
    have hk := T.desc_ok hd
    cases d with
    | struct l =>
      obtain ⟨fs, h1, _⟩ := hk
      simp only [Option.some.injEq] at h
      subst h
      simp [isAgg, run_underlying h1]
    | other =>
      obtain ⟨d, h1, h2⟩ := hk
      simp only [Option.some.injEq] at h
      subst h
      cases d <;> first | exact h2.elim | simp [isAgg, run_underlying h1]
    | _ =>
      simp only [Option.some.injEq] at h
      subst h
      simp [isAgg, run_underlying hk]
theorem run_size {t n : Nat} (h : T.size t = some n) : (sizeOf t).run P w = .ok n w := by
  obtain ⟨i, h1, h2⟩ := T.size_ok h
  simp [sizeOf, typeInfo, h1, h2]
theorem run_loadVar1 {t : Nat} {a : Addr} {v : Value} (h : T.agg t = some false) (hc : w.cell? a = some v) : (loadVar t a).run P w = .ok v w := by
  simp [loadVar, run_isAgg T h, run_load, hc]
theorem run_loadVarN {t n : Nat} {b off : Nat} {f : Nat → Value} (h : T.agg t = some true) (hn : T.size t = some n) (hc : ∀ j, j < n → w.cell? ⟨b, off + j, none⟩ = some (f j)) :
    (loadVar t ⟨b, off, none⟩).run P w = .ok (.agg (List.map f (List.range n)).toArray) w := by
  have := run_loadCells (P := P) (w := w) ⟨b, off, none⟩ n f (fun j hj => by rw [Addr.add_lit]; exact hc j hj)
  simp [loadVar, run_isAgg T h, run_size T hn, this]
end

theorem RepD.one {w : World} {X : Nat → Prop} {x : D} {v : Value} (h : RepD w X x v) : v.oneCell' = true := by
  cases h with
  | sc _ h1 => exact h1
  | sl => rfl
theorem Rep.one {w : World} {X : Nat → Prop} {G : Ctx} {x : AV} {v : Value} (h : Rep w X G x v) (hx : match x with | .any | .agg _ | .tup _ => False | _ => True) : v.oneCell' = true := by
  cases h with
  | any | agg | tup => exact hx.elim
  | d _ _ h => exact h.one
  | own _ _ _ h1 => exact h1
  | eptr _ _ _ _ _ _ h1 => exact h1
  | part _ _ _ _ _ _ h1 => exact h1
  | _ => rfl

/-- the operations that are reckoned: the value, and the objects that are read -/
def simp1 {P : Program} (T : Tab P) (env : Env) (h : Hp) : Op → Option (AV × List Nat)
  | .move x | .assign x => some (evalA env x, [])
  | .pick c x y => match evalA env c with
    | .d (.sc (.bool true)) => some (evalA env x, [])
    | .d (.sc (.bool false)) => some (evalA env y, [])
    | _ => none
  | .extract x i => match evalA env x with
    | .tup cs => match cs[i]? with
      | some c => some (c, [])
      | none => none
    | _ => none
  | .fieldAddr s x k => match T.fld s k with
    | some (off, _) => match evalA env x with
      | .ptr id o => some (.ptr id (o + off), [])
      | .ro cs => some (.ro (cs.drop off), [])
      | .roa cs => some (.roa (cs.drop off), [])
      | _ => none
    | none => none
  | .load t x => match T.agg t with
    | some false => match evalA env x with
      | .ptr id o => match hget h id with
        | some (.cells cs) => match cs[o]? with
          | some c => some (c, [id])
          | none => none
        | _ => none
      | .ro (c :: _) => some (.d c, [])
      | .roa (c :: _) => some (c, [])
      | _ => none
    | some true => match T.size t with
      | some n => match evalA env x with
        | .ptr id o => match hget h id with
          | some (.cells cs) => if o + n ≤ cs.length then some (.agg ((cs.drop o).take n), [id]) else none
          | _ => none
        | .ro cs => if n ≤ cs.length then some (.agg ((cs.take n).map .d), []) else none
        | .roa cs => if n ≤ cs.length then some (.agg (cs.take n), []) else none
        | _ => none
      | none => none
    | none => none
  | .binOp op _ x y _ => match binA op (evalA env x) (evalA env y) with
    | some v => some (v, [])
    | none => none
  | .unOp .not _ x => match evalA env x with
    | .d (.sc (.bool b)) => some (.d (.sc (.bool (!b))), [])
    | _ => none
  | .unOp .neg _ x => match evalA env x with
    | .d (.sc (.int k n)) => some (.d (.sc (.int k (wrp k (0 - n)))), [])
    | _ => none
  | .convert src dst x => match T.desc src, T.desc dst, evalA env x with
    | some (.int _), some (.int k), .d (.sc (.int _ n)) => some (.d (.sc (.int k (wrp k n))), [])
    | _, _, _ => none
  | .makeFunc (.func f) ⟨[]⟩ caps => some (.fn f (caps.toList.map (evalA env)), [])
  | .field t x k => match T.fld t k, evalA env x with
    | some (off, n), .agg cs => match T.desc t with
      | some (.struct fs) => match fs[k]? with
        | some (_, ft) => match T.agg ft with
          | some true => if off + n ≤ cs.length then some (.agg ((cs.drop off).take n), []) else none
          | some false => match cs[off]? with
            | some c => some (c, [])
            | none => none
          | none => none
        | none => none
      | _ => none
    | _, _ => none
  | .nilCheck x => match evalA env x with
    | .ptr id o => some (.ptr id o, [])
    | .ro cs => some (.ro cs, [])
    | .fn f cs => some (.fn f cs, [])
    | _ => none
  | .call { callee := .builtin .len, args := ⟨[x]⟩, argTypes := ⟨[t]⟩ } => match T.desc t, evalA env x with
    | some .string, .d (.sc (.string s)) => some (.d (.sc (.int .i64 s.size)), [])
    | some (.slice _), .d (.sl _ es) => some (.d (.sc (.int .i64 es.length)), [])
    | some (.slice _), .sla _ es => some (.d (.sc (.int .i64 es.length)), [])
    | some (.slice _), .d (.sc (.slice none 0 0)) => some (.d (.sc (.int .i64 0)), [])
    | _, _ => none
  | _ => none

theorem LStep.quiet {P : Program} {O : Org} {o : Oper} {env : Env} {h : Hp} {Ts : List Nat} {av : AV} (hd : dstOk o.dst O.nt = true)
    (H : ∀ env' h', (∀ x ∈ o.op.operands.toList, evalA env' x = evalA env x) → (∀ id ∈ Ts, hget h' id = hget h id) → ∀ a w G, Rel O env' h' a w G →
      ∃ v, (execOp a.eval o).run P w = .ok (.value v) w ∧ Rep w (XX O h' G) G av v) : LStep P O o env h Ts [] av [] := by
  intro env' h' ho ht _ a w G r K Q hK
  obtain ⟨v, h1, h2⟩ := H env' h' ho ht a w G r
  exact wp_value h1 (hK v w G (r.put hd h2))

theorem Rep.aggOf {w : World} {X : Nat → Prop} {G : Ctx} {n : Nat} {cs : List AV} {f : Nat → Value} (hl : cs.length = n) (hc : ∀ (j : Nat) (c : AV), cs[j]? = some c → Rep w X G c (f j) ∧ (f j).oneCell' = true) :
    Rep w X G (.agg cs) (.agg (List.map f (List.range n)).toArray) := by
  have hlt : ∀ i v, (List.map f (List.range n)).toArray[i]? = some v → i < n ∧ v = f i := by
    intro i v hv
    simp only [List.getElem?_toArray, List.getElem?_map, Option.map_eq_some_iff] at hv
    obtain ⟨k, hk, rfl⟩ := hv
    obtain ⟨hk1, hk2⟩ := List.getElem?_eq_some_iff.1 hk
    simp at hk1 hk2
    subst hk2
    exact ⟨hk1, rfl⟩
  refine .agg _ _ (by simp [hl]) (fun i c v hi hv => ?_) (fun i v hv => ?_)
  · obtain ⟨_, rfl⟩ := hlt i v hv
    exact (hc i c hi).1
  · obtain ⟨h1, rfl⟩ := hlt i v hv
    have : i < cs.length := by omega
    exact (hc i cs[i] (List.getElem?_eq_getElem this)).2

theorem fld_inv {P : Program} {T : Tab P} {s k off n : Nat} (h : T.fld s k = some (off, n)) :
    ∃ fs f, P.underlying s = some (.struct fs) ∧ fs[k]? = some f ∧ f.offset = off ∧ T.size f.type = some n ∧ 0 < n ∧ ∃ l, T.desc s = some (.struct l) ∧ l[k]? = some (off, f.type) := by
  unfold Tab.fld at h
  cases hd : T.desc s with
  | none => rw [hd] at h; cases h
  | some d =>
    rw [hd] at h
    cases d with
    | struct l =>
      obtain ⟨fs, h1, h2⟩ := T.desc_ok hd
      simp only at h
      cases hf : l[k]? with
      | none => rw [hf] at h; cases h
      | some p =>
        obtain ⟨o, ft⟩ := p
        rw [hf] at h
        simp only at h
        rw [← h2] at hf
        simp only [List.getElem?_map, Array.getElem?_toList, Option.map_eq_some_iff] at hf
        obtain ⟨f, hf, e⟩ := hf
        simp only [Prod.mk.injEq] at e
        obtain ⟨e1, e2⟩ := e
        subst e1; subst e2
        cases hs : T.size f.type with
        | none => rw [hs] at h; cases h
        | some m =>
          rw [hs] at h
          cases m with
          | zero => cases h
          | succ m =>
            simp only [Option.some.injEq, Prod.mk.injEq] at h
            obtain ⟨rfl, rfl⟩ := h
            exact ⟨fs, f, h1, hf, rfl, hs, Nat.succ_pos _, l, rfl, by rw [← h2]; simp [hf]⟩
    | _ => cases h
theorem fieldPlace_run {P : Program} {T : Tab P} {s k off n b o : Nat} {w : World} (h : T.fld s k = some (off, n)) :
    (Instr.fieldAt s (.pointer (some ⟨b, o, none⟩)) k).run P w = .ok (.pointer (some ⟨b, o + off, none⟩)) w := by
  obtain ⟨fs, f, h1, h2, rfl, h4, h5, _⟩ := fld_inv h
  have : n ≠ 0 := by omega
  simp [Instr.fieldAt, run_underlying h1, h2, Instr.sureAddr, fieldPlace, run_size T h4, Addr.add_lit, this]

section
variable {P : Program} {O : Org} {T : Tab P} {o : Oper} {env : Env} {h : Hp}

theorem LStep_move {x : Operand} (hd : dstOk o.dst O.nt = true) (ho : o.op = .move x ∨ o.op = .assign x) : LStep P O o env h [] [] (evalA env x) [] := by
  refine .quiet hd (fun env' h' he _ a w G r => ⟨a.eval x, ?_, ?_⟩)
  · rcases ho with e | e <;> simp [execOp, e]
  · rw [← he x (by rcases ho with e | e <;> simp [e, Op.operands])]
    exact evalA_rep r.env x

theorem LStep_pick {c x y : Operand} {b : Bool} (hd : dstOk o.dst O.nt = true) (ho : o.op = .pick c x y) (hc : evalA env c = .d (.sc (.bool b))) :
    LStep P O o env h [] [] (evalA env (if b then x else y)) [] := by
  refine .quiet hd (fun env' h' he _ a w G r => ⟨a.eval (if b then x else y), ?_, ?_⟩)
  · have h1 := evalA_rep r.env c
    rw [he c (by simp [ho, Op.operands]), hc] at h1
    simp [execOp, ho, h1.sc_inv, asBool]
    cases b <;> rfl
  · rw [← he (if b then x else y) (by cases b <;> simp [ho, Op.operands])]
    exact evalA_rep r.env _

theorem LStep_extract {x : Operand} {i : Nat} {cs : List AV} {c : AV} (hd : dstOk o.dst O.nt = true) (ho : o.op = .extract x i) (hx : evalA env x = .tup cs) (hi : cs[i]? = some c) :
    LStep P O o env h [] [] c [] := by
  refine .quiet hd (fun env' h' he _ a w G r => ?_)
  have h1 := evalA_rep r.env x
  rw [he x (by simp [ho, Op.operands]), hx] at h1
  generalize hv : a.eval x = v at h1
  cases h1 with
  | tup _ vs hs hc =>
    have hlt : i < vs.size := by rw [hs]; exact (List.getElem?_eq_some_iff.1 hi).1
    refine ⟨vs[i], ?_, hc i c _ hi (Array.getElem?_eq_getElem hlt)⟩
    simp [execOp, ho, hv, Instr.extract, Array.getElem?_eq_getElem hlt]

theorem LStep_fieldAddr {s k off n : Nat} {x : Operand} {av : AV} (hd : dstOk o.dst O.nt = true) (ho : o.op = .fieldAddr s x k) (hf : T.fld s k = some (off, n))
    (hx : (∃ id q, evalA env x = .ptr id q ∧ av = .ptr id (q + off)) ∨ (∃ cs, evalA env x = .ro cs ∧ av = .ro (cs.drop off)) ∨ (∃ cs, evalA env x = .roa cs ∧ av = .roa (cs.drop off))) :
    LStep P O o env h [] [] av [] := by
  refine .quiet hd (fun env' h' he _ a w G r => ?_)
  have h1 := evalA_rep r.env x
  rw [he x (by simp [ho, Op.operands])] at h1
  generalize hv : a.eval x = v at h1
  rcases hx with ⟨id, q, hx, rfl⟩ | ⟨cs, hx, rfl⟩ | ⟨cs, hx, rfl⟩
  · rw [hx] at h1
    cases h1 with
    | ptr _ _ b hb => exact ⟨_, by simp [execOp, ho, hv, fieldPlace_run hf], .ptr id (q + off) b hb⟩
  · rw [hx] at h1
    cases h1 with
    | ro _ b q vs hb hX hcell hrep =>
      refine ⟨_, by simp only [execOp, ho, hv]; simp [fieldPlace_run hf], .ro _ b (q + off) (fun j => vs (off + j)) hb hX (fun j x hj => ?_) (fun j x hj => ?_)⟩
      · rw [List.getElem?_drop] at hj
        rw [Nat.add_assoc]; exact hcell _ x hj
      · rw [List.getElem?_drop] at hj
        exact hrep _ x hj
  · rw [hx] at h1
    cases h1 with
    | roa _ b q vs hb hX hcell hrep h1 =>
      refine ⟨_, by simp only [execOp, ho, hv]; simp [fieldPlace_run hf], .roa _ b (q + off) (fun j => vs (off + j)) hb hX (fun j x hj => ?_) (fun j x hj => ?_) (fun j x hj => ?_)⟩
      · rw [List.getElem?_drop] at hj
        rw [Nat.add_assoc]; exact hcell _ x hj
      · rw [List.getElem?_drop] at hj
        exact hrep _ x hj
      · rw [List.getElem?_drop] at hj
        exact h1 _ x hj

theorem LStep_loadCell {t : Nat} {x : Operand} {id q : Nat} {cs : List AV} {c : AV} (hd : dstOk o.dst O.nt = true) (ho : o.op = .load t x) (ha : T.agg t = some false)
    (hx : evalA env x = .ptr id q) (hh : hget h id = some (.cells cs)) (hc : cs[q]? = some c) : LStep P O o env h [id] [] c [] := by
  refine .quiet hd (fun env' h' he ht a w G r => ?_)
  have h1 := evalA_rep r.env x
  rw [he x (by simp [ho, Op.operands]), hx] at h1
  obtain ⟨b, arr, ty, e1, e2, e3, e4⟩ := r.obj id _ ((ht id (by simp)).trans hh)
  generalize hv : a.eval x = v at h1
  cases h1 with
  | ptr _ _ b' hb =>
    obtain rfl : b = b' := by rw [e1] at hb; injection hb with hb; injection hb with hb; injection hb
    have hlt : q < arr.size := by rw [e3]; exact (List.getElem?_eq_some_iff.1 hc).1
    have hq := Array.getElem?_eq_getElem hlt
    refine ⟨arr[q], ?_, (e4 q c _ hc hq).1⟩
    simp [execOp, ho, hv, Instr.loadAt, Instr.sureAddr, run_loadVar1 T ha (show w.cell? ⟨b, q, none⟩ = some arr[q] by rw [cell_of_row w b q arr ty (0, 0) e2, hq])]

theorem LStep_loadAgg {t n : Nat} {x : Operand} {id q : Nat} {cs : List AV} (hd : dstOk o.dst O.nt = true) (ho : o.op = .load t x) (ha : T.agg t = some true) (hn : T.size t = some n)
    (hx : evalA env x = .ptr id q) (hh : hget h id = some (.cells cs)) (hc : q + n ≤ cs.length) : LStep P O o env h [id] [] (.agg ((cs.drop q).take n)) [] := by
  refine .quiet hd (fun env' h' he ht a w G r => ?_)
  have h1 := evalA_rep r.env x
  rw [he x (by simp [ho, Op.operands]), hx] at h1
  obtain ⟨b, arr, ty, e1, e2, e3, e4⟩ := r.obj id _ ((ht id (by simp)).trans hh)
  generalize hv : a.eval x = v at h1
  cases h1 with
  | ptr _ _ b' hb =>
    obtain rfl : b = b' := by rw [e1] at hb; injection hb with hb; injection hb with hb; injection hb
    have hcell : ∀ j, j < n → w.cell? ⟨b, q + j, none⟩ = some (arr.getD (q + j) undef) := fun j hj => by
      have hlt : q + j < arr.size := by omega
      rw [cell_of_row w b (q + j) arr ty (0, 0) e2, Array.getD_eq_getD_getElem?, Array.getElem?_eq_getElem hlt]; rfl
    refine ⟨_, by simp [execOp, ho, hv, Instr.loadAt, Instr.sureAddr, run_loadVarN T ha hn hcell]; rfl, ?_⟩
    refine Rep.aggOf (by simp; omega) (fun j c hj => ?_)
    have hj' : j < n ∧ cs[q + j]? = some c := by
      rw [List.getElem?_take, List.getElem?_drop] at hj
      split at hj
      · exact ⟨by assumption, hj⟩
      · cases hj
    have hlt : q + j < arr.size := by omega
    have := e4 (q + j) c _ hj'.2 (Array.getElem?_eq_getElem hlt)
    rw [Array.getElem?_eq_getElem hlt]
    exact this

theorem LStep_loadRo {t : Nat} {x : Operand} {c : D} {cs : List D} (hd : dstOk o.dst O.nt = true) (ho : o.op = .load t x) (ha : T.agg t = some false) (hx : evalA env x = .ro (c :: cs)) : LStep P O o env h [] [] (.d c) [] := by
  refine .quiet hd (fun env' h' he _ a w G r => ?_)
  have h1 := evalA_rep r.env x
  rw [he x (by simp [ho, Op.operands]), hx] at h1
  generalize hv : a.eval x = v at h1
  cases h1 with
  | ro _ b q vs hb hX hcell hrep =>
    exact ⟨vs 0, by simp [execOp, ho, hv, Instr.loadAt, Instr.sureAddr, run_loadVar1 T ha (show w.cell? ⟨b, q, none⟩ = some (vs 0) from hcell 0 c rfl)], .d _ _ (hrep 0 c rfl)⟩
theorem LStep_loadRoa {t : Nat} {x : Operand} {c : AV} {cs : List AV} (hd : dstOk o.dst O.nt = true) (ho : o.op = .load t x) (ha : T.agg t = some false) (hx : evalA env x = .roa (c :: cs)) : LStep P O o env h [] [] c [] := by
  refine .quiet hd (fun env' h' he _ a w G r => ?_)
  have h1 := evalA_rep r.env x
  rw [he x (by simp [ho, Op.operands]), hx] at h1
  generalize hv : a.eval x = v at h1
  cases h1 with
  | roa _ b q vs hb hX hcell hrep h1 =>
    exact ⟨vs 0, by simp [execOp, ho, hv, Instr.loadAt, Instr.sureAddr, run_loadVar1 T ha (show w.cell? ⟨b, q, none⟩ = some (vs 0) from hcell 0 c rfl)], hrep 0 c rfl⟩
theorem LStep_loadRoN {t n : Nat} {x : Operand} {cs : List D} (hd : dstOk o.dst O.nt = true) (ho : o.op = .load t x) (ha : T.agg t = some true) (hn : T.size t = some n) (hx : evalA env x = .ro cs) (hl : n ≤ cs.length) :
    LStep P O o env h [] [] (.agg ((cs.take n).map .d)) [] := by
  refine .quiet hd (fun env' h' he _ a w G r => ?_)
  have h1 := evalA_rep r.env x
  rw [he x (by simp [ho, Op.operands]), hx] at h1
  generalize hv : a.eval x = v at h1
  cases h1 with
  | ro _ b q vs hb hX hcell hrep =>
    have hg : ∀ j, j < n → ∃ y, cs[j]? = some y := fun j hj => ⟨_, List.getElem?_eq_getElem (by omega)⟩
    refine ⟨_, by simp [execOp, ho, hv, Instr.loadAt, Instr.sureAddr, run_loadVarN T ha hn (f := vs) (fun j hj => let ⟨y, hy⟩ := hg j hj; hcell j y hy)]; rfl, ?_⟩
    refine Rep.aggOf (by simp; omega) (fun j c hj => ?_)
    rw [List.getElem?_map, List.getElem?_take] at hj
    split at hj
    · simp only [Option.map_eq_some_iff] at hj
      obtain ⟨y, hy, rfl⟩ := hj
      exact ⟨.d _ _ (hrep j y hy), (hrep j y hy).one⟩
    · cases hj
theorem LStep_loadRoaN {t n : Nat} {x : Operand} {cs : List AV} (hd : dstOk o.dst O.nt = true) (ho : o.op = .load t x) (ha : T.agg t = some true) (hn : T.size t = some n) (hx : evalA env x = .roa cs) (hl : n ≤ cs.length) :
    LStep P O o env h [] [] (.agg (cs.take n)) [] := by
  refine .quiet hd (fun env' h' he _ a w G r => ?_)
  have h1 := evalA_rep r.env x
  rw [he x (by simp [ho, Op.operands]), hx] at h1
  generalize hv : a.eval x = v at h1
  cases h1 with
  | roa _ b q vs hb hX hcell hrep h1 =>
    have hg : ∀ j, j < n → ∃ y, cs[j]? = some y := fun j hj => ⟨_, List.getElem?_eq_getElem (by omega)⟩
    refine ⟨_, by simp [execOp, ho, hv, Instr.loadAt, Instr.sureAddr, run_loadVarN T ha hn (f := vs) (fun j hj => let ⟨y, hy⟩ := hg j hj; hcell j y hy)]; rfl, ?_⟩
    refine Rep.aggOf (by simp; omega) (fun j c hj => ?_)
    rw [List.getElem?_take] at hj
    split at hj
    · exact ⟨hrep j c hj, h1 j c hj⟩
    · cases hj

theorem binA_run {op : BinOp} {t yt : Nat} {x y : Operand} {a : Act} {u v : Value} {av : AV} (hb : binA op (.d (.sc u)) (.d (.sc v)) = some av) (ho : o.op = .binOp op t x y yt) (hx : a.eval x = u) (hy : a.eval y = v) (w : World) :
    ∃ z, (execOp a.eval o).run P w = .ok (.value z) w ∧ av = .d (.sc z) ∧ z.oneCell' = true := by
  cases u with
  | int k n =>
    cases v with
    | int k' m =>
      simp only [binA] at hb
      by_cases hk : k = k'
      · subst hk
        rw [if_pos rfl] at hb
        cases op <;> simp only [Option.some.injEq, reduceCtorEq] at hb <;> subst hb <;>
          exact ⟨_, by simp [execOp, ho, hx, hy, eqGuard, binOp, Op.intArith, Op.intCmp]; rfl, by simp only [ltb_d, leb_d, eqb_d, wrp_d]; first | done | rfl | (congr 3; rw [Bool.eq_iff_iff]; simp), rfl⟩
      · rw [if_neg hk] at hb; cases hb
    | _ => simp [binA] at hb
  | string s =>
    cases v with
    | string s' =>
      simp only [binA] at hb
      cases op <;> simp only [Option.some.injEq, reduceCtorEq] at hb <;> subst hb <;>
        exact ⟨_, by simp [execOp, ho, hx, hy, eqGuard, binOp, Op.stringOp]; rfl, by simp only [eqs_d, lts_d]; first | done | rfl | (congr 3; (first | (rw [ba_toList_inj]; done) | (rw [ba_toList_inj, Bool.eq_iff_iff]; simp))), rfl⟩
    | _ => simp [binA] at hb
  | _ => cases v <;> simp [binA] at hb

theorem LStep_binOp {op : BinOp} {t yt : Nat} {x y : Operand} {av : AV} (hd : dstOk o.dst O.nt = true) (ho : o.op = .binOp op t x y yt) (hb : binA op (evalA env x) (evalA env y) = some av) :
    LStep P O o env h [] [] av [] := by
  refine .quiet hd (fun env' h' he _ a w G r => ?_)
  have h1 := evalA_rep r.env x
  have h2 := evalA_rep r.env y
  rw [he x (by simp [ho, Op.operands])] at h1
  rw [he y (by simp [ho, Op.operands])] at h2
  generalize evalA env x = X at hb h1
  generalize evalA env y = Y at hb h2
  unfold binA at hb
  split at hb
  · obtain ⟨z, e1, e2, e3⟩ := binA_run (P := P) (t := t) (yt := yt) (av := av) (by unfold binA; exact hb) ho h1.sc_inv h2.sc_inv w
    exact ⟨z, e1, e2 ▸ .d _ _ (.sc z e3)⟩
  · obtain ⟨z, e1, e2, e3⟩ := binA_run (P := P) (t := t) (yt := yt) (av := av) (by unfold binA; exact hb) ho h1.sc_inv h2.sc_inv w
    exact ⟨z, e1, e2 ▸ .d _ _ (.sc z e3)⟩
  · cases hb

/-- + - * whose result fits -/
theorem LStep_arith {op : BinOp} {t yt : Nat} {x y : Operand} {k : IntKind} {m n q : Int} (hd : dstOk o.dst O.nt = true) (ho : o.op = .binOp op t x y yt)
    (hx : evalA env x = .d (.sc (.int k m))) (hy : evalA env y = .d (.sc (.int k n))) (hq : (op = .add ∧ q = m + n) ∨ (op = .sub ∧ q = m - n) ∨ (op = .mul ∧ q = m * n)) (hr : k.wrap q = q) :
    LStep P O o env h [] [] (.d (.sc (.int k q))) [] := by
  have hb : binA op (evalA env x) (evalA env y) = some (.d (.sc (.int k q))) := by
    rw [hx, hy]
    simp only [binA, if_true]
    rcases hq with ⟨rfl, rfl⟩ | ⟨rfl, rfl⟩ | ⟨rfl, rfl⟩ <;> simp only [wrp_d, hr]
  exact LStep_binOp hd ho hb

theorem LStep_not {t : Nat} {x : Operand} {b : Bool} (hd : dstOk o.dst O.nt = true) (ho : o.op = .unOp .not t x) (hx : evalA env x = .d (.sc (.bool b))) : LStep P O o env h [] [] (.d (.sc (.bool (!b)))) [] := by
  refine .quiet hd (fun env' h' he _ a w G r => ?_)
  have h1 := evalA_rep r.env x
  rw [he x (by simp [ho, Op.operands]), hx] at h1
  exact ⟨.bool (!b), by simp [execOp, ho, h1.sc_inv, Op.unary], .d _ _ (.sc _ rfl)⟩
theorem LStep_neg {t : Nat} {x : Operand} {k : IntKind} {n : Int} (hd : dstOk o.dst O.nt = true) (ho : o.op = .unOp .neg t x) (hx : evalA env x = .d (.sc (.int k n))) : LStep P O o env h [] [] (.d (.sc (.int k (wrp k (0 - n))))) [] := by
  refine .quiet hd (fun env' h' he _ a w G r => ?_)
  have h1 := evalA_rep r.env x
  rw [he x (by simp [ho, Op.operands]), hx] at h1
  exact ⟨.int k (wrp k (0 - n)), by simp only [wrp_d, execOp, ho, h1.sc_inv, Op.unary, Op.intArith]; rfl, .d _ _ (.sc _ rfl)⟩
theorem LStep_convert {s d : Nat} {x : Operand} {k0 k1 k : IntKind} {n : Int} (hd : dstOk o.dst O.nt = true) (ho : o.op = .convert s d x) (hs : T.desc s = some (.int k0)) (hk : T.desc d = some (.int k)) (hx : evalA env x = .d (.sc (.int k1 n))) :
    LStep P O o env h [] [] (.d (.sc (.int k (wrp k n)))) [] := by
  refine .quiet hd (fun env' h' he _ a w G r => ?_)
  have h1 := evalA_rep r.env x
  rw [he x (by simp [ho, Op.operands]), hx] at h1
  exact ⟨.int k (wrp k n), by simp [wrp_d, execOp, ho, h1.sc_inv, convert, run_underlying (T.desc_ok hs), run_underlying (T.desc_ok hk), Conv.intToInt], .d _ _ (.sc _ rfl)⟩
theorem LStep_makeFunc {f : FuncId} {caps : Array Operand} (hd : dstOk o.dst O.nt = true) (ho : o.op = .makeFunc (.func f) #[] caps) : LStep P O o env h [] [] (.fn f (caps.toList.map (evalA env))) [] := by
  refine .quiet hd (fun env' h' he _ a w G r => ⟨.func (.func f) #[] (caps.map a.eval), by simp [execOp, ho, Instr.makeFunc], .fn _ _ _ (by simp) (fun i c v hc hv => ?_)⟩)
  simp only [List.getElem?_map, Array.getElem?_toList, Option.map_eq_some_iff] at hc
  obtain ⟨x, hx, rfl⟩ := hc
  simp only [Array.getElem?_map, hx, Option.map_some, Option.some.injEq] at hv
  subst hv
  rw [← he x (by
    have := Array.mem_of_getElem? hx
    simp [ho, Op.operands, this])]
  exact evalA_rep r.env x
theorem LStep_nilCheck {x : Operand} {av : AV} (hd : dstOk o.dst O.nt = true) (ho : o.op = .nilCheck x) (hx : evalA env x = av) (hv : match av with | .ptr _ _ | .ro _ | .fn _ _ => True | _ => False) : LStep P O o env h [] [] av [] := by
  refine .quiet hd (fun env' h' he _ a w G r => ?_)
  have h1 := evalA_rep r.env x
  rw [he x (by simp [ho, Op.operands]), hx] at h1
  refine ⟨a.eval x, ?_, h1⟩
  generalize hv : a.eval x = v at h1
  cases h1 <;> first | exact hv.elim | simp [execOp, ho, hv]
theorem LStep_len {t : Nat} {x : Operand} {n : Nat} (hd : dstOk o.dst O.nt = true) (ho : o.op = .call { callee := .builtin .len, args := #[x], argTypes := #[t] })
    (hx : (∃ s, T.desc t = some .string ∧ evalA env x = .d (.sc (.string s)) ∧ n = s.size) ∨ (∃ e sz es, T.desc t = some (.slice e) ∧ evalA env x = .d (.sl sz es) ∧ n = es.length) ∨
      (∃ e sz es, T.desc t = some (.slice e) ∧ evalA env x = .sla sz es ∧ n = es.length) ∨ (∃ e, T.desc t = some (.slice e) ∧ evalA env x = .d (.sc (.slice none 0 0)) ∧ n = 0)) :
    LStep P O o env h [] [] (.d (.sc (.int .i64 n))) [] := by
  refine .quiet hd (fun env' h' he _ a w G r => ⟨.int .i64 n, ?_, .d _ _ (.sc _ rfl)⟩)
  have h1 := evalA_rep r.env x
  rw [he x (by simp [ho, Op.operands, Call.operands])] at h1
  rcases hx with ⟨s, hT, hx, rfl⟩ | ⟨e, sz, es, hT, hx, rfl⟩ | ⟨e, sz, es, hT, hx, rfl⟩ | ⟨e, hT, hx, rfl⟩
  · rw [hx] at h1
    simp [execOp, ho, resolve, invoke, builtin, Builtin.len_, run_underlying (T.desc_ok hT), h1.sc_inv, goInt]
  · rw [hx] at h1
    generalize hv : a.eval x = v at h1
    cases h1 with
    | d _ _ h1 =>
      cases h1 with
      | sl _ _ A n c b off vs hn => simp [execOp, ho, resolve, invoke, builtin, Builtin.len_, run_underlying (T.desc_ok hT), hv, goInt, hn]
  · rw [hx] at h1
    generalize hv : a.eval x = v at h1
    cases h1 with
    | sla _ _ A n c b off vs hn => simp [execOp, ho, resolve, invoke, builtin, Builtin.len_, run_underlying (T.desc_ok hT), hv, goInt, hn]
  · rw [hx] at h1
    simp [execOp, ho, resolve, invoke, builtin, Builtin.len_, run_underlying (T.desc_ok hT), h1.sc_inv, goInt]
theorem LStep_lenOwn {t id n e : Nat} {x : Operand} {ety sz : Nat} {es : List (List D)} (hd : dstOk o.dst O.nt = true) (ho : o.op = .call { callee := .builtin .len, args := #[x], argTypes := #[t] })
    (hT : T.desc t = some (.slice e)) (hx : evalA env x = .own id n) (hh : hget h id = some (.arr ety sz es)) (hn : es.length = n) : LStep P O o env h [id] [] (.d (.sc (.int .i64 n))) [] := by
  refine .quiet hd (fun env' h' he ht a w G r => ⟨.int .i64 n, ?_, .d _ _ (.sc _ rfl)⟩)
  have h1 := evalA_rep r.env x
  rw [he x (by simp [ho, Op.operands, Call.operands]), hx] at h1
  obtain ⟨hlen, _, _, xs, hown, _⟩ := r.obj id _ ((ht id (by simp)).trans hh)
  generalize hv : a.eval x = v at h1
  cases h1 with
  | own _ _ _ _ _ _ hvv =>
    have hm := hvv (by rw [hlen, hn])
    rcases hown.2 with ⟨e1, e2⟩ | ⟨g, cap, cur, e1, _⟩
    · rw [e1] at hm
      subst hm
      simp [execOp, ho, resolve, invoke, builtin, Builtin.len_, run_underlying (T.desc_ok hT), hv, goInt]; omega
    · rw [e1] at hm
      subst hm
      simp [execOp, ho, resolve, invoke, builtin, Builtin.len_, run_underlying (T.desc_ok hT), hv, goInt, hn]

theorem LStep_fieldOf {t k off off' n ft : Nat} {x : Operand} {cs : List AV} {l : List (Nat × Nat)} {g : Bool} {av : AV} (hd : dstOk o.dst O.nt = true) (ho : o.op = .field t x k) (hf : T.fld t k = some (off, n))
    (hT : T.desc t = some (.struct l)) (hk : l[k]? = some (off', ft)) (hg : T.agg ft = some g) (hx : evalA env x = .agg cs)
    (hv : (g = true ∧ off + n ≤ cs.length ∧ av = .agg ((cs.drop off).take n)) ∨ (g = false ∧ cs[off]? = some av)) : LStep P O o env h [] [] av [] := by
  refine .quiet hd (fun env' h' he _ a w G r => ?_)
  have h1 := evalA_rep r.env x
  rw [he x (by simp [ho, Op.operands]), hx] at h1
  obtain ⟨fs, f, e1, e2, e3, e4, e5, l', e6, e7⟩ := fld_inv hf
  rw [hT] at e6
  cases e6
  rw [hk] at e7
  simp only [Option.some.injEq, Prod.mk.injEq] at e7
  obtain ⟨_, e7⟩ := e7
  subst e7
  generalize hvv : a.eval x = v at h1
  cases h1 with
  | agg _ vs hs hc h1 =>
    rcases hv with ⟨rfl, hl, rfl⟩ | ⟨rfl, hi⟩
    · refine ⟨.agg (vs.extract off (off + n)), by simp [execOp, ho, hvv, Instr.field, run_underlying e1, e2, asAgg, part, run_isAgg T hg, e3, run_size T e4], ?_⟩
      refine .agg _ _ (by simp; omega) (fun i c v hi hj => ?_) (fun i v hj => ?_)
      · rw [List.getElem?_take, List.getElem?_drop] at hi
        split at hi
        · rename_i hin
          rw [Array.getElem?_extract] at hj
          split at hj
          · exact hc (off + i) c v hi hj
          · cases hj
        · cases hi
      · rw [Array.getElem?_extract] at hj
        split at hj
        · exact h1 _ v hj
        · cases hj
    · have hlt : off < vs.size := by rw [hs]; exact (List.getElem?_eq_some_iff.1 hi).1
      have hq := Array.getElem?_eq_getElem hlt
      exact ⟨vs[off], by simp [execOp, ho, hvv, Instr.field, run_underlying e1, e2, asAgg, part, run_isAgg T hg, e3, hq], hc off av _ hi hq⟩

theorem LStep_simp1 {av : AV} {Ts : List Nat} (hd : dstOk o.dst O.nt = true) (hs : simp1 T env h o.op = some (av, Ts)) : LStep P O o env h Ts [] av [] := by
  generalize ho : o.op = op at hs
  unfold simp1 at hs
  split at hs
  · cases hs; exact LStep_move hd (.inl ho)
  · cases hs; exact LStep_move hd (.inr ho)
  · split at hs
    · cases hs; exact LStep_pick (b := true) hd ho (by assumption)
    · cases hs; exact LStep_pick (b := false) hd ho (by assumption)
    · cases hs
  · split at hs
    · split at hs
      · cases hs; exact LStep_extract hd ho (by assumption) (by assumption)
      · cases hs
    · cases hs
  · split at hs
    · split at hs
      · cases hs; exact LStep_fieldAddr hd ho (by assumption) (.inl ⟨_, _, by assumption, rfl⟩)
      · cases hs; exact LStep_fieldAddr hd ho (by assumption) (.inr (.inl ⟨_, by assumption, rfl⟩))
      · cases hs; exact LStep_fieldAddr hd ho (by assumption) (.inr (.inr ⟨_, by assumption, rfl⟩))
      · cases hs
    · cases hs
  · split at hs
    · split at hs
      · split at hs
        · split at hs
          · cases hs; exact LStep_loadCell hd ho (by assumption) (by assumption) (by assumption) (by assumption)
          · cases hs
        · cases hs
      · cases hs; exact LStep_loadRo hd ho (by assumption) (by assumption)
      · cases hs; exact LStep_loadRoa hd ho (by assumption) (by assumption)
      · cases hs
    · split at hs
      · split at hs
        · split at hs
          · split at hs
            · cases hs; exact LStep_loadAgg hd ho (by assumption) (by assumption) (by assumption) (by assumption) (by assumption)
            · cases hs
          · cases hs
        · split at hs
          · cases hs; exact LStep_loadRoN hd ho (by assumption) (by assumption) (by assumption) (by assumption)
          · cases hs
        · split at hs
          · cases hs; exact LStep_loadRoaN hd ho (by assumption) (by assumption) (by assumption) (by assumption)
          · cases hs
        · cases hs
      · cases hs
    · cases hs
  · split at hs
    · cases hs; exact LStep_binOp hd ho (by assumption)
    · cases hs
  · split at hs
    · cases hs; exact LStep_not hd ho (by assumption)
    · cases hs
  · split at hs
    · cases hs; exact LStep_neg hd ho (by assumption)
    · cases hs
  · split at hs
    · cases hs; exact LStep_convert hd ho (by assumption) (by assumption) (by assumption)
    · cases hs
  · cases hs; exact LStep_makeFunc hd ho
  · split at hs
    · split at hs
      · split at hs
        · split at hs
          · split at hs
            · cases hs; exact LStep_fieldOf hd ho (by assumption) (by assumption) (by assumption) (by assumption) (by assumption) (.inl ⟨rfl, by assumption, rfl⟩)
            · cases hs
          · split at hs
            · cases hs; exact LStep_fieldOf hd ho (by assumption) (by assumption) (by assumption) (by assumption) (by assumption) (.inr ⟨rfl, by assumption⟩)
            · cases hs
          · cases hs
        · cases hs
      · cases hs
    · cases hs
  · split at hs
    · cases hs; exact LStep_nilCheck hd ho (by assumption) trivial
    · cases hs; exact LStep_nilCheck hd ho (by assumption) trivial
    · cases hs; exact LStep_nilCheck hd ho (by assumption) trivial
    · cases hs
  · split at hs
    · cases hs; exact LStep_len hd ho (.inl ⟨_, by assumption, by assumption, rfl⟩)
    · cases hs; exact LStep_len hd ho (.inr (.inl ⟨_, _, _, by assumption, by assumption, rfl⟩))
    · cases hs; exact LStep_len hd ho (.inr (.inr (.inl ⟨_, _, _, by assumption, by assumption, rfl⟩)))
    · cases hs; exact LStep_len hd ho (.inr (.inr (.inr ⟨_, by assumption, by assumption, rfl⟩)))
    · cases hs
  · cases hs
end
end Go.SL
