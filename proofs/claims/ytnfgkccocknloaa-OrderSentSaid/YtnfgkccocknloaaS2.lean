/- The layer 'SL': the state, the judgement on code, the rules on code. -/
import Derived.Test.YtnfgkccocknloaaS1
namespace Go.SL
open Go.RowKit

def blk : Value → Option Nat
  | .pointer (some a) => some a.block
  | .slice (some a) _ _ => some a.block
  | .map (some b) => some b
  | _ => none
def names : AObj → List Nat
  | .map _ _ _ (some (i, _)) => [i]
  | _ => []
def Own (h : Hp) (G : Ctx) (b : Nat) : Prop := ∃ id o, hget h id = some o ∧ ∃ j, j ∈ id :: names o ∧ blk (G.m j) = some b

def IterRep (w : World) (G : Ctx) (b : Nat) (ents : Array MapEntry) (clock : Nat) : Option (Nat × List Value × Option Value) → Prop
  | none => True
  | some (i, todo, cur) => ∃ ib stamps, G.m i = .pointer (some ⟨ib, 0, none⟩) ∧ w.heap[ib]? = some (.mapIter (some b) clock stamps clock) ∧
      (∀ e ∈ ents.toList, stamps.contains e.born = false ↔ e.key ∈ todo) ∧ (∀ k ∈ todo, ∃ e ∈ ents.toList, e.key = k) ∧ ∀ k, cur = some k → ∃ e ∈ ents.toList, e.key = k ∧ ∃ s : Array Nat, stamps = s.push e.born

def ObjRep (w : World) (X : Nat → Prop) (G : Ctx) (id : Nat) : AObj → Prop
  | .cells cs => ∃ b arr ty, G.m id = .pointer (some ⟨b, 0, none⟩) ∧ w.heap[b]? = some (.cells arr ty (0, 0)) ∧ arr.size = cs.length ∧
      ∀ (i : Nat) (c : AV) (v : Value), cs[i]? = some c → arr[i]? = some v → Rep w X G c v ∧ v.oneCell' = true
  | .arr ety sz es => G.len id = es.length ∧ (∃ A l c, G.m id = .slice A l c) ∧ (∀ (i : Nat) (e : List D), es[i]? = some e → e.length = sz) ∧ ∃ xs, w.ownsRow 0 ety sz (G.m id) es.length xs ∧
      ∀ (i : Nat) (e : List D), es[i]? = some e → ∀ (j : Nat) (x : D), e[j]? = some x → ∃ v, xs[i * sz + j]? = some v ∧ RepD w X x v
  | .map _ _ es it => ∃ b ents clock, G.m id = .map (some b) ∧ w.heap[b]? = some (.map ents clock) ∧ ents.size = es.length ∧
      (∀ (i : Nat) (k : Value) (c : AV) (e : MapEntry), es[i]? = some (k, c) → ents[i]? = some e → e.key = k ∧ Rep w X G c e.val ∧ noid c = true) ∧
      (∀ (i j : Nat) (e e' : MapEntry), ents[i]? = some e → ents[j]? = some e' → e.born = e'.born → i = j) ∧ (∀ e ∈ ents.toList, e.born < clock) ∧ IterRep w G b ents clock it

structure Org where
  w0 : World
  X : Nat → Prop
  own0 : Nat → Prop
  ids : List Nat
  G0 : Ctx
  nt : Nat

def XX (O : Org) (h : Hp) (G : Ctx) : Nat → Prop := fun b => O.X b ∨ Own h G b

structure Rel (O : Org) (env : Env) (h : Hp) (a : Act) (w : World) (G : Ctx) : Prop where
  size : a.tmps.size = O.nt
  dfr : a.defers = []
  env : ∀ t, Rep w (XX O h G) G (lk env t) (a.tmps.getD t undef)
  obj : ∀ id o, hget h id = some o → ObjRep w (XX O h G) G id o
  dist : ∀ id o j id' o' j' b, hget h id = some o → j ∈ id :: names o → hget h id' = some o' → j' ∈ id' :: names o' → blk (G.m j) = some b → blk (G.m j') = some b → id = id' ∧ j = j'
  ext : Ext O.own0 O.w0 w
  own : ∀ b, Own h G b → b < O.w0.heap.size → O.own0 b
  xlt : ∀ b, O.X b → b < O.w0.heap.size ∧ ¬ O.own0 b
  ids : ∀ id ∈ O.ids, G.m id = O.G0.m id

def lift (O : Org) (Q : Exit → Env → Hp → Prop) (e : Exit) (a : Act) (w : World) : Prop := ∃ env h G, Rel O env h a w G ∧ Q e env h

def AW (P : Program) (O : Org) (c : Code) (Q : Exit → Env → Hp → Prop) (env : Env) (h : Hp) : Prop :=
  ∀ a w G, Rel O env h a w G → c.wp P (lift O Q) a w

def evalA (env : Env) : Operand → AV
  | .tmp t => lk env t
  | .const (.agg vs) => if vs.all (fun v => v.oneCell') then .agg (vs.toList.map fun v => .d (.sc v)) else .any
  | .const (.tuple _) => .any
  | .const v => .d (.sc v)
  | .global _ => .any
  | .func f => .fn f []

theorem evalA_rep {w : World} {X : Nat → Prop} {G : Ctx} {env : Env} {a : Act} (h : ∀ t, Rep w X G (lk env t) (a.tmps.getD t undef)) (x : Operand) : Rep w X G (evalA env x) (a.eval x) := by
  cases x with
  | tmp t => exact h t
  | const v =>
    cases v <;> first
      | exact .d _ _ (.sc _ rfl)
      | exact .any _
      | skip
    rename_i vs
    show Rep w X G (if vs.all (fun v => v.oneCell') then .agg (vs.toList.map fun v => .d (.sc v)) else .any) (.agg vs)
    split
    · rename_i hv
      rw [Array.all_eq_true] at hv
      refine .agg _ _ (by simp) (fun i c v hc hi => ?_) (fun i v hi => ?_)
      · have hlt : i < vs.size := (Array.getElem?_eq_some_iff.1 hi).1
        have h1 := hv i hlt
        simp only [List.getElem?_map, Array.getElem?_toList, hi, Option.map_some, Option.some.injEq] at hc
        subst hc
        obtain ⟨_, e⟩ := Array.getElem?_eq_some_iff.1 hi
        exact .d _ _ (.sc _ (e ▸ h1))
      · obtain ⟨hlt, e⟩ := Array.getElem?_eq_some_iff.1 hi
        exact e ▸ hv i hlt
    · exact .any _
  | global g => exact .any _
  | func f => exact .fn f [] #[] rfl (fun i c v hc _ => by simp at hc)

/-! ### smaller states -/
theorem Own.sub {h h' : Hp} {G : Ctx} (hs : ∀ id o, hget h' id = some o → hget h id = some o) {b : Nat} (ho : Own h' G b) : Own h G b :=
  let ⟨id, o, h1, h2⟩ := ho
  ⟨id, o, hs id o h1, h2⟩
theorem ObjRep.mono {w : World} {X X' : Nat → Prop} {G : Ctx} {id : Nat} {o : AObj} (h : ObjRep w X G id o) (hX : ∀ b, b < w.heap.size → X' b → X b) : ObjRep w X' G id o := by
  have hr : ∀ {x : AV} {v : Value}, Rep w X G x v → Rep w X' G x v := fun h => h.ext (Ext.refl (fun _ => False) w) (fun _ _ h => h.elim) hX (GStep.refl G)
  have hd : ∀ {x : D} {v : Value}, RepD w X x v → RepD w X' x v := fun h => h.ext (Ext.refl (fun _ => False) w) (fun _ _ h => h.elim) hX
  cases o with
  | cells cs =>
    obtain ⟨b, arr, ty, h1, h2, h3, h4⟩ := h
    exact ⟨b, arr, ty, h1, h2, h3, fun i c v hc hv => ⟨hr (h4 i c v hc hv).1, (h4 i c v hc hv).2⟩⟩
  | arr ety sz es =>
    obtain ⟨h1, h2, h3, xs, h4, h5⟩ := h
    exact ⟨h1, h2, h3, xs, h4, fun i e hi j x hj => let ⟨v, e1, e2⟩ := h5 i e hi j x hj; ⟨v, e1, hd e2⟩⟩
  | map kt et es it =>
    obtain ⟨b, ents, clock, h1, h2, h3, h4, h5⟩ := h
    exact ⟨b, ents, clock, h1, h2, h3, fun i k c e hi hj => ⟨(h4 i k c e hi hj).1, hr (h4 i k c e hi hj).2.1, (h4 i k c e hi hj).2.2⟩, h5⟩

theorem Rel.weak {O : Org} {env env' : Env} {h h' : Hp} {a : Act} {w : World} {G : Ctx} (r : Rel O env h a w G) (he : ∀ t, lk env' t = lk env t ∨ lk env' t = .any)
    (hs : ∀ id o, hget h' id = some o → hget h id = some o) : Rel O env' h' a w G := by
  have hX : ∀ b, b < w.heap.size → XX O h' G b → XX O h G b := fun b _ hb => hb.imp id (fun ho => ho.sub hs)
  refine ⟨r.size, r.dfr, fun t => ?_, fun id o ho => (r.obj id o (hs id o ho)).mono hX, fun id o j id' o' j' b h1 h2 h3 h4 => r.dist id o j id' o' j' b (hs _ _ h1) h2 (hs _ _ h3) h4, r.ext, fun b hb => r.own b (hb.sub hs), r.xlt, r.ids⟩
  rcases he t with e | e
  · rw [e]; exact (r.env t).ext (Ext.refl (fun _ => False) w) (fun _ _ h => h.elim) hX (GStep.refl G)
  · rw [e]; exact .any _

/-! ### the rules on code -/
section
variable {P : Program} {O : Org} {Q : Exit → Env → Hp → Prop} {env : Env} {h : Hp}

theorem AW.mono {c : Code} {Q' : Exit → Env → Hp → Prop} (H : AW P O c Q env h) (hq : ∀ e env h, Q e env h → Q' e env h) : AW P O c Q' env h :=
  fun a w G r => Code.wp_mono (fun _ _ _ ⟨env, h, G, r, q⟩ => ⟨env, h, G, r, hq _ _ _ q⟩) (H a w G r)
theorem AW_weak {c : Code} {env' : Env} {h' : Hp} (H : AW P O c Q env' h') (he : ∀ t, lk env' t = lk env t ∨ lk env' t = .any) (hs : ∀ id o, hget h' id = some o → hget h id = some o) : AW P O c Q env h :=
  fun a w G r => H a w G (r.weak he hs)

def thenQ (K : Env → Hp → Prop) (Q : Exit → Env → Hp → Prop) : Exit → Env → Hp → Prop
  | .normal, env, h => K env h
  | e, env, h => Q e env h
theorem AW_seq {x y : Code} (H : AW P O x (thenQ (AW P O y Q) Q) env h) : AW P O (.seq x y) Q env h := by
  intro a w G r
  refine wp_seq (Code.wp_mono (fun e a w => ?_) (H a w G r))
  rintro ⟨env, h, G, r, q⟩
  cases e with
  | normal => exact q a w G r
  | _ => exact ⟨env, h, G, r, q⟩
theorem AW_skip (H : Q .normal env h) : AW P O .skip Q env h := fun _ _ _ r => wp_skip ⟨env, h, _, r, H⟩
theorem AW_label {l : Nat} (H : Q .normal env h) : AW P O (.label l) Q env h := fun _ _ _ r => wp_label ⟨env, h, _, r, H⟩
theorem AW_ret (H : Q .ret env h) : AW P O .ret Q env h := fun _ _ _ r => wp_ret ⟨env, h, _, r, H⟩
theorem AW_exit {id : Nat} (H : Q (.exit id) env h) : AW P O (.exit id) Q env h := fun _ _ _ r => wp_exit ⟨env, h, _, r, H⟩

def blockQ (id : Nat) (Q : Exit → Env → Hp → Prop) : Exit → Env → Hp → Prop
  | .exit id', env, h => bif Nat.beq id' id then Q .normal env h else Q (.exit id') env h
  | e, env, h => Q e env h
theorem AW_block {id : Nat} {c : Code} (H : AW P O c (blockQ id Q) env h) : AW P O (.block id c) Q env h := by
  intro a w G r
  refine wp_block (Code.wp_mono (fun e a w => ?_) (H a w G r))
  rintro ⟨env, h, G, r, q⟩
  cases e with
  | exit id' =>
    show (if id' = id then _ else _)
    by_cases hid : id' = id
    · subst hid
      rw [if_pos rfl]
      have q' : (bif Nat.beq id' id' then Q .normal env h else Q (.exit id') env h) := q
      simp at q'
      exact ⟨env, h, G, r, q'⟩
    · rw [if_neg hid]
      have q' : (bif Nat.beq id' id then Q .normal env h else Q (.exit id') env h) := q
      have : Nat.beq id' id = false := by
        cases hb : Nat.beq id' id
        · rfl
        · exact absurd (Nat.eq_of_beq_eq_true hb) hid
      rw [this] at q'
      exact ⟨env, h, G, r, q'⟩
  | _ => exact ⟨env, h, G, r, q⟩

theorem RepD.bool_inv {w : World} {X : Nat → Prop} {b : Bool} {v : Value} (h : RepD w X (.sc (.bool b)) v) : v = .bool b := by cases h; rfl
theorem RepD.sc_inv {w : World} {X : Nat → Prop} {u v : Value} (h : RepD w X (.sc u) v) : v = u := by cases h; rfl
theorem Rep.sc_inv {w : World} {X : Nat → Prop} {G : Ctx} {u v : Value} (h : Rep w X G (.d (.sc u)) v) : v = u := by cases h with | d _ _ h => exact h.sc_inv

theorem AW_cond {c : Operand} {x y : Code} {b : Bool} (hc : evalA env c = .d (.sc (.bool b))) (H1 : b = true → AW P O x Q env h) (H2 : b = false → AW P O y Q env h) : AW P O (.cond c x y) Q env h := by
  intro a w G r
  have hv := evalA_rep r.env c
  rw [hc] at hv
  exact wp_cond_split hv.sc_inv (fun e => H1 e a w G r) (fun e => H2 e a w G r)

theorem least_exists {p : Nat → Prop} : (∃ m, p m) → ∃ m, p m ∧ ∀ k, p k → m ≤ k := by
  rintro ⟨m, hm⟩
  induction m using Nat.strongRecOn with
  | _ m ih =>
    by_cases hk : ∃ k, k < m ∧ p k
    · obtain ⟨k, hk1, hk2⟩ := hk
      exact ih k hk1 hk2
    · refine ⟨m, hm, fun k hp => ?_⟩
      rcases Nat.lt_or_ge k m with h | h
      · exact absurd ⟨k, h, hp⟩ hk
      · exact h
open Classical in
noncomputable def leastOf (p : Nat → Prop) : Nat := if h : ∃ m, p m then Classical.choose (least_exists h) else 0
theorem leastOf_spec {p : Nat → Prop} (h : ∃ m, p m) : p (leastOf p) ∧ ∀ k, p k → leastOf p ≤ k := by
  unfold leastOf
  rw [dif_pos h]
  exact Classical.choose_spec (least_exists h)
def LoopAt {S : Type} (O : Org) (I : S → Prop) (E : S → Env) (Hh : S → Hp) (μ : S → Nat) (a : Act) (w : World) (m : Nat) : Prop :=
  ∃ s G, I s ∧ Rel O (E s) (Hh s) a w G ∧ μ s = m

/-- A loop: the states at its head by a parameter. -/
theorem AW_loop {c : Code} {S : Type} (I : S → Prop) (E : S → Env) (Hh : S → Hp) (μ : S → Nat) (s0 : S) (h0 : I s0)
    (he : ∀ t, lk (E s0) t = lk env t ∨ lk (E s0) t = .any) (hs : ∀ id o, hget (Hh s0) id = some o → hget h id = some o)
    (round : ∀ s, I s → AW P O c (thenQ (fun env' h' => ∃ s', I s' ∧ μ s' < μ s ∧ (∀ t, lk (E s') t = lk env' t ∨ lk (E s') t = .any) ∧ (∀ id o, hget (Hh s') id = some o → hget h' id = some o)) Q) (E s) (Hh s)) :
    AW P O (.loop c) Q env h := by
  intro a w G r
  have wit := r.weak he hs
  refine wp_loop (fun a w => ∃ m, LoopAt O I E Hh μ a w m) (fun a w => leastOf (LoopAt O I E Hh μ a w)) ⟨μ s0, s0, G, h0, wit, rfl⟩ (fun a w hI => ?_)
  obtain ⟨⟨s, G, hs1, hr1, hm⟩, hle⟩ := leastOf_spec hI
  refine Code.wp_mono (fun e a' w' => ?_) (round s hs1 a w G hr1)
  rintro ⟨env', h', G', r', q⟩
  cases e with
  | normal =>
    obtain ⟨s', i1, i2, i3, i4⟩ := q
    have hJ : LoopAt O I E Hh μ a' w' (μ s') := ⟨s', G', i1, r'.weak i3 i4, rfl⟩
    refine ⟨⟨_, hJ⟩, ?_⟩
    have := (leastOf_spec ⟨_, hJ⟩).2 _ hJ
    omega
  | _ => exact ⟨env', h', G', r', q⟩
end
end Go.SL
