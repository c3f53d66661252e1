/- The layer 'SL': loops that keep what they do not turn; lists by their elements; parts of slices and strings; structs compared; own rows made data. -/
import Derived.Test.YtglkilmflohfoaaDoorSf
import Derived.Laws.StructEq
import Derived.Laws.MakeOwn
import Derived.Laws.OwnMore
import Derived.LoopN
namespace Go.SL
open Go.RowKit

/-! ### loops -/
def WeakX : List Nat → Env → Env → Prop
  | _, [], _ => True
  | ks, (t, v) :: r, env => (hasN ks t = true ∨ lk env t = v) ∧ WeakX (t :: ks) r env
theorem WeakX.each : ∀ {ks : List Nat} {E env : Env}, WeakX ks E env → ∀ t, t ∉ ks → lk E t = lk env t ∨ lk E t = .any
  | _, [], _, _, _, _ => .inr rfl
  | ks, (t, v) :: r, env, h, s, hs => by
    rw [lk_cons]
    by_cases e : t = s
    · subst e
      rw [if_pos rfl]
      rcases h.1 with h1 | h1
      · exact absurd (hasN_mem.1 h1) hs
      · exact .inl h1.symm
    · rw [if_neg e]
      exact WeakX.each h.2 s (by simp only [List.mem_cons, not_or]; exact ⟨fun x => e x.symm, hs⟩)
theorem lk_append {E env : Env} (t : Nat) : lk (E ++ env) t = if t ∈ E.map (·.1) then lk E t else lk env t := by
  induction E with
  | nil => simp
  | cons p r ih =>
    obtain ⟨s, v⟩ := p
    rw [List.cons_append, lk_cons, lk_cons, ih]
    by_cases e : s = t
    · subst e; rw [if_pos rfl, if_pos (by simp), if_pos rfl]
    · have : (t ∈ List.map (fun x => x.1) ((s, v) :: r)) ↔ (t ∈ List.map (fun x => x.1) r) := by
        simp only [List.map_cons, List.mem_cons]
        exact ⟨fun h => h.resolve_left (fun x => e x.symm), .inr⟩
      rw [if_neg e, if_neg e]
      simp only [this]
theorem WeakL.app {E env env' : Env} (h1 : WeakL E env') (h2 : WeakX (E.map (·.1)) env env') : ∀ t, lk (E ++ env) t = lk env' t ∨ lk (E ++ env) t = .any := by
  intro t
  rw [lk_append]
  split
  · exact h1.each t
  · rename_i hn
    exact h2.each t hn
def SubX : List Nat → Hp → Hp → Prop
  | _, [], _ => True
  | ks, (t, v) :: r, h => (hasN ks t = true ∨ match v with | some o => hget h t = some o | none => True) ∧ SubX (t :: ks) r h
theorem SubX.each : ∀ {ks : List Nat} {H h : Hp}, SubX ks H h → ∀ id o, id ∉ ks → hget H id = some o → hget h id = some o
  | _, [], _, _, id, o, _, ho => by cases ho
  | ks, (t, v) :: r, h, hs, id, o, hk, ho => by
    rw [hget_cons] at ho
    by_cases e : t = id
    · subst e
      rw [if_pos rfl] at ho
      subst ho
      rcases hs.1 with h1 | h1
      · exact absurd (hasN_mem.1 h1) hk
      · exact h1
    · rw [if_neg e] at ho
      exact SubX.each hs.2 id o (by simp only [List.mem_cons, not_or]; exact ⟨fun x => e x.symm, hk⟩) ho
theorem SubH.app {H h h' : Hp} (h1 : SubH H h') (h2 : SubX (H.map (·.1)) h h') : ∀ id o, hget (H ++ h) id = some o → hget h' id = some o := by
  intro id o ho
  rw [hget_append] at ho
  split at ho
  · exact h1.each id o ho
  · rename_i hn
    exact h2.each id o hn ho

section
variable {P : Program} {O : Org} {T : Tab P} {Q : Exit → Env → Hp → Prop} {env : Env} {h : Hp} {o : Oper}

/-- A loop: of the slots and the objects those that turn by a parameter; all others stay. -/
theorem AW_forE {c : Code} {S : Type} (I : S → Prop) (E : S → Env) (Hh : S → Hp) (μ : S → Nat) (s0 : S) (h0 : I s0) (he : WeakL (E s0) env) (hs : SubH (Hh s0) h)
    (round : ∀ s, I s → AW P O c (thenQ (fun env' h' => ∃ s', I s' ∧ μ s' < μ s ∧ WeakL (E s') env' ∧ WeakX ((E s').map (·.1)) env env' ∧ SubH (Hh s') h' ∧ SubX ((Hh s').map (·.1)) h h') Q) (E s ++ env) (Hh s ++ h)) : AW P O (.loop c) Q env h :=
  AW_loop I (fun s => E s ++ env) (fun s => Hh s ++ h) μ s0 h0 (fun t => by
      rw [lk_append]
      split
      · exact he.each t
      · exact .inl rfl) (fun id o ho => by
      rw [hget_append] at ho
      split at ho
      · exact hs.each id o ho
      · exact ho) fun s hI => (round s hI).mono fun e env' h' q => by
    cases e with
    | normal => exact let ⟨s', h1, h2, h3, h4, h5, h6⟩ := q; ⟨s', h1, h2, h3.app h4, h5.app h6⟩
    | _ => exact q

/-! ### lists by their elements -/
theorem LStep_lenM {t e sz : Nat} {x : Operand} {α : Type} {enc : α → List D} {l : List α} (ho : o.op = .call { callee := .builtin .len, args := #[x], argTypes := #[t] }) (hT : T.desc t = some (.slice e))
    (hx : evalA env x = .d (.sl sz (l.map enc))) (hd : dstOk o.dst O.nt = true) : LStep P O o env h [] [] (.d (.sc (.int .i64 (l.length : Nat)))) [] :=
  LStep_len (T := T) hd ho (.inr (.inl ⟨e, sz, _, hT, hx, (List.length_map ..).symm⟩))
theorem LStep_indexM {t e sz : Nat} {x i : Operand} {α : Type} {enc : α → List D} {l : List α} {kd : IntKind} {k : Nat} {c : α} (ho : o.op = .indexAddr t x i) (hT : T.desc t = some (.slice e)) (hS : T.size e = some sz)
    (hx : evalA env x = .d (.sl sz (l.map enc))) (hi : evalA env i = .d (.sc (.int kd (k : Nat)))) (hd : dstOk o.dst O.nt = true) (hc : l[k]? = some c) : LStep P O o env h [] [] (.ro (enc c)) [] :=
  LStep_index (T := T) hd ho hT hS hx hi (by omega) (by rw [Int.toNat_natCast, List.getElem?_map, hc]; rfl)
/-! ### a part of a slice that is data -/
theorem RepD.part {w : World} {X : Nat → Prop} {sz : Nat} {es : List (List D)} {A : Option Addr} {n c : Nat} (h : RepD w X (.sl sz es) (.slice A n c)) {l q : Nat} (hl : l ≤ q) (hq : q ≤ n) :
    RepD w X (.sl sz ((es.take q).drop l)) (.slice (if c = l then A else A.map (·.add (l * sz))) (q - l) (c - l)) := by
  cases h with
  | sl _ _ _ _ _ b off vs hn hcap hA hsz hcell hrep =>
    have hget : ∀ (i : Nat) (e : List D), ((es.take q).drop l)[i]? = some e → es[l + i]? = some e := by
      intro i e hi
      rw [List.getElem?_drop, List.getElem?_take] at hi
      split at hi
      · exact hi
      · cases hi
    refine .sl sz _ _ (q - l) (c - l) b (off + l * sz) (fun i j => vs (l + i) j) (by simp; omega) (by omega) (fun h0 => ?_) (fun i e hi => hsz _ e (hget i e hi)) (fun i e hi j x hj => ?_) (fun i e hi j x hj => hrep _ e (hget i e hi) j x hj)
    · obtain ⟨e1, e2, e3⟩ := hA (by omega)
      subst e1
      refine ⟨?_, e2, e3⟩
      rw [if_neg (by omega)]
      simp only [Option.map_some, Addr.add_lit]
    · have := hcell _ e (hget i e hi) j x hj
      rw [Nat.add_mul, Nat.add_assoc] at this
      rw [Nat.add_assoc]
      exact this
/-! ### structs of scalars, compared -/
theorem LStep_neqAgg {n t yt : Nat} {k : List Nat} {x y : Operand} {us vs : List Value} {r : Bool} (hS : eqS T n t = some k) (hG : P.eqGuardType P.depth t = false) (hn : n ≤ 10000) (hg : T.agg t = some true) (ho : o.op = .binOp .neq t x y yt)
    (hx : scL (evalA env x) = some us) (hy : scL (evalA env y) = some vs) (hr : eqVs k us vs = some r) (hd : dstOk o.dst O.nt = true) : LStep P O o env h [] [] (.d (.sc (.bool (!r)))) [] := by
  refine .quiet hd (fun env' h' he _ a w G rr => ⟨.bool (!r), ?_, .d _ _ (.sc _ rfl)⟩)
  have g1 := evalA_rep rr.env x
  have g2 := evalA_rep rr.env y
  rw [he x (by simp [ho, Op.operands])] at g1
  rw [he y (by simp [ho, Op.operands])] at g2
  have e1 := scL_rep hx g1
  have e2 := scL_rep hy g2
  have h1 := equalIn_run n t k hS 10000 hn us vs r hr w
  have e : ∀ l : List Value, mkV T t l = .agg l.toArray := fun l => by unfold mkV; rw [hg]
  rw [e, e] at h1
  simp [execOp, ho, e1, e2, run_eqGuard_agg w .neq t x y _ _ hG, run_neq_struct, h1]
end
end Go.SL
/- The layer 'SL': own rows: made, read and written by index, made data; nil that begins to grow in a cell. -/
namespace Go.SL
open Go.RowKit

section
variable {P : Program} {O : Org} {T : Tab P} {Q : Exit → Env → Hp → Prop} {env : Env} {h : Hp} {o : Oper}

/-- an own row reads as data, where its block is no object any more -/
theorem own_sl {w : World} {X X' : Nat → Prop} {G : Ctx} {id ety sz : Nat} {es : List (List D)} (ho : ObjRep w X G id (.arr ety sz es)) (hX : ∀ b, b < w.heap.size → X' b → X b) (hid : ∀ b, blk (G.m id) = some b → ¬ X' b) : RepD w X' (.sl sz es) (G.m id) := by
  obtain ⟨h1, ⟨A, l, c, hm⟩, h3, xs, hown, h5⟩ := ho
  have hrow := hown
  rcases hown.2 with ⟨e1, e2⟩ | ⟨g, cap, cur, e1, _, e3, e4, e5, e6, e7⟩
  · rw [e1]
    have : es = [] := List.eq_nil_of_length_eq_zero e2
    subst this
    exact .sl sz [] none 0 0 0 0 (fun _ _ => undef) rfl (Nat.le_refl _) (fun h => absurd h (by omega)) (fun i e h => by simp at h) (fun i e h => by simp at h) (fun i e h => by simp at h)
  · rw [e1] at hid hrow ⊢
    have hv : ∀ (i : Nat) (e : List D), es[i]? = some e → ∀ (j : Nat) (x : D), e[j]? = some x → xs[i * sz + j]? = some (xs.getD (i * sz + j) undef) ∧ RepD w X x (xs.getD (i * sz + j) undef) := by
      intro i e hi j x hj
      obtain ⟨v, a1, a2⟩ := h5 i e hi j x hj
      rw [List.getD_eq_getElem?_getD, a1]
      exact ⟨rfl, a2⟩
    refine .sl sz es _ _ cap g 0 (fun i j => xs.getD (i * sz + j) undef) rfl e4 (fun _ => ⟨rfl, heap_lt e3, hid g rfl⟩) h3 (fun i e hi j x hj => ?_) (fun i e hi j x hj => (hv i e hi j x hj).2.ext (Ext.refl (fun _ => False) w) (fun _ _ h => h.elim) hX)
    have := hrow.cells (g := g) rfl _ _ (hv i e hi j x hj).1
    rw [Addr.add_lit] at this
    exact this

/-- The objects but one; its block is no object's any more. -/
theorem Rel.drop {O : Org} {env : Env} {h : Hp} {a : Act} {w : World} {G : Ctx} (r : Rel O env h a w G) {id : Nat} {ob : AObj} (hh : hget h id = some ob) :
    (∀ b, XX O ((id, none) :: h) G b → XX O h G b) ∧ (∀ b, blk (G.m id) = some b → ¬ O.X b → ¬ XX O ((id, none) :: h) G b) := by
  have hs : ∀ i o, hget ((id, none) :: h) i = some o → hget h i = some o ∧ id ≠ i := by
    intro i o ho
    rw [hget_cons] at ho
    by_cases e : id = i
    · rw [if_pos e] at ho; cases ho
    · rw [if_neg e] at ho; exact ⟨ho, e⟩
  refine ⟨fun b hb => hb.imp (fun h => h) (fun ho => ho.sub (fun i o h => (hs i o h).1)), fun b hb hx hb' => ?_⟩
  rcases hb' with h1 | ⟨i, o, h1, j, hj, h2⟩
  · exact hx h1
  · obtain ⟨h3, h4⟩ := hs i o h1
    exact h4 (r.dist id ob id i o j b hh List.mem_cons_self h3 hj hb h2).1
theorem Rel.xNot {O : Org} {env : Env} {h : Hp} {a : Act} {w : World} {G : Ctx} (r : Rel O env h a w G) {id : Nat} {ob : AObj} (hh : hget h id = some ob) {b : Nat} (hb : blk (G.m id) = some b) : ¬ O.X b := by
  intro hx
  obtain ⟨h1, h2⟩ := r.xlt b hx
  exact h2 (r.own b ⟨id, ob, hh, id, List.mem_cons_self, hb⟩ h1)

def LkAll (env : Env) (v : AV) : List Nat → Prop
  | [] => True
  | t :: ts => lk env t = v ∧ LkAll env v ts
theorem LkAll.mem {env : Env} {v : AV} : ∀ {ts : List Nat}, LkAll env v ts → ∀ t ∈ ts, lk env t = v
  | [], _, _, h => by simp at h
  | t :: ts, h, s, hs => by
    rcases List.mem_cons.1 hs with e | e
    · exact e ▸ h.1
    · exact h.2.mem s e
theorem lk_maps (v : AV) (ts : List Nat) (env : Env) (s : Nat) : lk (ts.map (fun t => (t, v)) ++ env) s = if s ∈ ts then v else lk env s := by
  induction ts with
  | nil => simp
  | cons t ts ih =>
    rw [List.map_cons, List.cons_append, lk_cons, ih]
    by_cases e : t = s
    · subst e; simp
    · rw [if_neg e]
      simp only [List.mem_cons]
      by_cases e2 : s ∈ ts
      · rw [if_pos e2, if_pos (.inr e2)]
      · rw [if_neg e2, if_neg (fun h => h.elim (fun x => e x.symm) e2)]
/-- An own row is written no more: it is data. -/
theorem AW_freeze {c : Code} (ts : List Nat) {id n e sz : Nat} {es : List (List D)} (hl : LkAll env (.own id n) ts) (hh : hget h id = some (.arr e sz es)) (hn : es.length = n)
    (H : AW P O c Q (ts.map (fun t => (t, .d (.sl sz es))) ++ env) ((id, none) :: h)) : AW P O c Q env h := by
  intro a w G r
  obtain ⟨d1, d2⟩ := r.drop hh
  have hob := r.obj id _ hh
  refine H a w G ⟨r.size, r.dfr, fun t => ?_, fun i o ho => ?_, fun i o j i' o' j' b h1 h2 h3 h4 => ?_, r.ext, fun b hb => r.own b ?_, r.xlt, r.ids⟩
  · rw [lk_maps]
    split
    · rename_i ht
      have hv := r.env t
      rw [hl.mem t ht] at hv
      generalize a.tmps.getD t undef = v at hv
      cases hv with
      | own _ _ _ _ _ _ hvv =>
        rw [hvv (by rw [hob.1, hn])]
        exact .d _ _ (own_sl hob (fun b _ hb => d1 b hb) (fun b hb => d2 b hb (r.xNot hh hb)))
    · exact (r.env t).ext (Ext.refl (fun _ => False) w) (fun _ _ h => h.elim) (fun b _ hb => d1 b hb) (GStep.refl G)
  · rw [hget_cons] at ho
    by_cases e : id = i
    · rw [if_pos e] at ho; cases ho
    · rw [if_neg e] at ho
      exact (r.obj i o ho).mono (fun b _ hb => d1 b hb)
  · rw [hget_cons] at h1 h3
    by_cases e : id = i
    · rw [if_pos e] at h1; cases h1
    · rw [if_neg e] at h1
      by_cases e' : id = i'
      · rw [if_pos e'] at h3; cases h3
      · rw [if_neg e'] at h3
        exact r.dist i o j i' o' j' b h1 h2 h3 h4
  · exact hb.sub (fun i o ho => by
      rw [hget_cons] at ho
      by_cases e : id = i
      · rw [if_pos e] at ho; cases ho
      · rw [if_neg e] at ho; exact ho)

/-- nil is a slice of nothing -/
theorem AW_nilD {c : Code} (sz : Nat) (t : Nat) (hl : lk env t = .d (.sc (.slice none 0 0))) (H : AW P O c Q ((t, .d (.sl sz [])) :: env) h) : AW P O c Q env h := by
  intro a w G r
  refine H a w G ⟨r.size, r.dfr, fun s => ?_, r.obj, r.dist, r.ext, r.own, r.xlt, r.ids⟩
  rw [lk_cons]
  by_cases e : t = s
  · subst e
    rw [if_pos rfl]
    have hv := r.env t
    rw [hl] at hv
    rw [hv.sc_inv]
    exact .d _ _ (.sl sz [] none 0 0 0 0 (fun _ _ => undef) rfl (Nat.le_refl _) (fun h => absurd h (by omega)) (fun i e h => by simp at h) (fun i e h => by simp at h) (fun i e h => by simp at h))
  · rw [if_neg e]; exact r.env s
theorem gRc (K : AW P O .ret Q env h) : AW P O .ret Q env h := K

/-! ### made -/
end
end Go.SL
/- The layer 'SL': loops of so many rounds; callbacks. -/
namespace Go.SL
open Go.RowKit

section
variable {P : Program} {O : Org} {T : Tab P} {Q : Exit → Env → Hp → Prop} {env : Env} {h : Hp} {o : Oper}

def plainB (hc : Hp) (ids : List Nat) : Bool := hc.all fun p => match p.2 with
  | some o => onlyO (keysH hc) o && hasN ids p.1
  | none => false
theorem plain_of {hc : Hp} {ids : List Nat} (hp : plainB hc ids = true) : Plain hc ids := by
  unfold plainB at hp
  rw [List.all_eq_true] at hp
  have hs : ∀ p ∈ hc, ∃ o, p.2 = some o := fun p hm => by
    have := hp p hm
    cases hq : p.2 with
    | none => rw [hq] at this; cases this
    | some o => exact ⟨o, rfl⟩
  intro id o ho
  obtain ⟨_, hm⟩ := mem_keysH ho
  have := hp _ hm
  simp only [Bool.and_eq_true] at this
  obtain ⟨e1, e2⟩ := onlyO_spec this.1
  exact ⟨e1, hasN_mem.1 this.2, fun j hj => hget_of_key hs (e2 j hj)⟩
/-- a call in the caller's own names: of a callback -/
theorem LStep_callB {f : FuncId} {args : List AV} {hc : Hp} {ids : List Nat} {rv : AV} (C : AC P f args hc ids (fun r h' => r = rv ∧ Kp hc h')) (ha : callA env o.op = some (f, args)) (hd : dstOk o.dst O.nt = true) (hin : SubH hc h) (hp : plainB hc ids = true)
    (hn : noid rv = true) : LStep P O o env h (keysH hc) [] rv [] := LStep_callI C ha hd hin.each (plain_of hp) hn
theorem Kp.refl (h : Hp) : Kp h h := fun _ _ ho => ho
theorem Kp.sub {hc h : Hp} (H : SubH hc h) : Kp hc h := H.each
/-- what keeps all of a list's objects, as 'SubH' -/
def distinctK : Hp → Bool
  | [] => true
  | (t, _) :: r => !hasN (keysH r) t && distinctK r
theorem sub_of_kp : ∀ {hc h : Hp}, distinctK hc = true → Kp hc h → SubH hc h
  | [], _, _, _ => trivial
  | (t, v) :: r, h, hd, k => by
    simp only [distinctK, Bool.and_eq_true, Bool.not_eq_true'] at hd
    refine ⟨?_, sub_of_kp hd.2 (fun id o ho => k id o ?_)⟩
    · cases v with
      | none => trivial
      | some o => exact k t o (by rw [hget_cons, if_pos rfl])
    · rw [hget_cons, if_neg ?_]
      · exact ho
      · intro e
        subst e
        have := (mem_keysH ho).1
        rw [hasN_mem.2 this] at hd
        exact absurd hd.1 (by simp)
theorem AC.kp {f : FuncId} {args : List AV} {hc : Hp} {ids : List Nat} {rv : AV} (C : AC P f args hc ids (fun r h' => r = rv ∧ Kp hc h')) (hd : distinctK hc = true) : AC P f args hc ids (fun r h' => r = rv ∧ SubH hc h') :=
  C.mono fun _ _ ⟨e, k⟩ => ⟨e, sub_of_kp hd k⟩

/-! ### the same laws, what they leave written out -/
theorem LStep_storeN {t n id q : Nat} {x y : Operand} {cs vs cs' : List AV} (ho : o.op = .store t x y) (hd : o.dst = none) (hn : T.size t = some n) (hx : evalA env x = .ptr id q) (hh : hget h id = some (.cells cs)) (hv : cellsA (evalA env y) = some vs)
    (hl : vs.length = n) (hfit : q + n ≤ cs.length) (he : etaL (setsA cs q vs) = some cs') : LStep P O o env h [id] [] (.tup []) [(id, some (.cells cs'))] :=
  etaL_inv he ▸ LStep_store (T := T) ho hd hn hx hh hv hl hfit
theorem LStep_allocN {t id : Nat} {cs cs' : List AV} (ho : o.op = .alloc t) (hd : o.dst = some id) (hn : dstOk (some id) O.nt = true) (hc : T.zeroC t = some cs) (hi : O.ids.contains id = false) (he : etaL cs = some cs') :
    LStep P O o env h [] [id] (.ptr id 0) [(id, some (.cells cs'))] := etaL_inv he ▸ LStep_alloc (T := T) ho hd hn hc hi
theorem LStep_boxN {t id : Nat} {x : Operand} {cs cs' : List AV} (ho : o.op = .box t x) (hd : o.dst = some id) (hn : dstOk (some id) O.nt = true) (hc : cellsA (evalA env x) = some cs) (hi : O.ids.contains id = false) (he : etaL cs = some cs') :
    LStep P O o env h [] [id] (.ptr id 0) [(id, some (.cells cs'))] := etaL_inv he ▸ LStep_box ho hd hn hc hi
theorem LStep_callHN {f : FuncId} {args : List AV} {hc hr hr' : Hp} {ids : List Nat} {rv rv' : AV} {Ts : List Nat} (pi pn : List (Nat × Nat)) (C : AC P f args hc ids (fun r h' => r = rv ∧ SubH hr h')) (ha : callA env o.op = some (f, ren.renL (asg pi) args)) (hd : dstOk o.dst O.nt = true)
    (hin : AllIn (asg pi) h hc) (hk : callOk O ids hc hr rv pi pn = true) (hl : LenIn hr hc) (he : eta [] (ren (asg (pi ++ pn)) rv) = some (rv', Ts)) (hh : renH (asg (pi ++ pn)) hr = hr') :
    LStep P O o env h ((keysH hc).map (asg pi)) (pn.map (·.2)) rv' hr' := eta_inv he ▸ hh ▸ LStep_callH pi pn C ha hd hin hk hl
theorem LStep_callGN {f : FuncId} {args : List AV} {hc hr hr' : Hp} {ids : List Nat} {rv rv' : AV} {Ts : List Nat} (gs : List Nat) (pi pn : List (Nat × Nat)) (C : AC P f args hc ids (fun r h' => r = rv ∧ SubH hr h')) (ha : callA env o.op = some (f, ren.renL (asg pi) args)) (hd : dstOk o.dst O.nt = true)
    (hin : AllIn (asg pi) h hc) (hk : callOkG O ids gs hc hr rv pi pn = true) (hl : LenG gs hr hc) (he : eta [] (ren (asg (pi ++ pn)) rv) = some (rv', Ts)) (hh : renH (asg (pi ++ pn)) hr = hr') :
    LStep P O o env h ((keysH hc).map (asg pi)) (pn.map (·.2)) rv' hr' := eta_inv he ▸ hh ▸ LStep_callG gs pi pn C ha hd hin hk hl
end
end Go.SL
