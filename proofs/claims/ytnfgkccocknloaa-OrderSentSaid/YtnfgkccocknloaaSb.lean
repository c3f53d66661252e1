/- The layer 'SL': the state behind a call that was handed objects. -/
import Derived.Test.YtnfgkccocknloaaSa
namespace Go.SL
open Go.RowKit

def sameLen : AObj → AObj → Prop
  | .arr _ _ a, .arr _ _ b => a.length = b.length
  | .arr _ _ _, _ => False
  | _, _ => True
def Ctx.via (G : Ctx) (f : Nat → Nat) : Ctx := ⟨fun i => G.m (f i), fun i => G.len (f i)⟩
theorem ObjRep.sameCtx {w : World} {X : Nat → Prop} {G G' : Ctx} {id : Nat} {o : AObj} (h : ObjRep w X G id o) (h0 : G'.m id = G.m id ∧ G'.len id = G.len id)
    (hG : ∀ i, freshO i o = false → G'.m i = G.m i ∧ G'.len i = G.len i) : ObjRep w X G' id o := by
  have := h.ren (f := fun i => i) (G' := G') ⟨h0.1, fun _ => h0.2⟩ (fun i hi => ⟨(hG i hi).1, fun _ => (hG i hi).2⟩)
  rwa [renO_id] at this
theorem ObjRep.lenOf {w : World} {X : Nat → Prop} {G : Ctx} {id : Nat} {o : AObj} (h : ObjRep w X G id o) (hs : ∃ A l c, G.m id = .slice A l c) : ∃ e s es, o = .arr e s es ∧ G.len id = es.length := by
  obtain ⟨A, l, c, hs⟩ := hs
  cases o with
  | cells cs => obtain ⟨b, arr, ty, h1, _⟩ := h; rw [hs] at h1; cases h1
  | arr e s es => exact ⟨e, s, es, rfl, h.1⟩
  | map kt et es it => obtain ⟨b, ents, clock, h1, _⟩ := h; rw [hs] at h1; cases h1

/-- what a call was handed, and what it left -/
structure Handed (O : Org) (env : Env) (h : Hp) (G : Ctx) (hc : Hp) (ρ : Nat → Nat) : Prop where
  hin : ∀ id o, hget hc id = some o → hget h (ρ id) = some (renO ρ o)
  inj : ∀ id o id' o', hget hc id = some o → hget hc id' = some o' → ρ id = ρ id' → id = id'
  nm : ∀ id o, hget hc id = some o → names o = []

theorem Handed.own {O : Org} {env : Env} {h : Hp} {G : Ctx} {hc : Hp} {ρ : Nat → Nat} (H : Handed O env h G hc ρ) {b : Nat} (hb : Own hc (G.via ρ) b) : ∃ id o, hget hc id = some o ∧ blk (G.m (ρ id)) = some b := by
  obtain ⟨id, o, h1, j, hj, h2⟩ := hb
  rw [H.nm id o h1] at hj
  have : j = id := by simpa using hj
  subst this
  exact ⟨j, o, h1, h2⟩
theorem Handed.own' {O : Org} {env : Env} {h : Hp} {G : Ctx} {hc : Hp} {ρ : Nat → Nat} (H : Handed O env h G hc ρ) {b : Nat} (hb : Own hc (G.via ρ) b) : Own h G b := by
  obtain ⟨id, o, h1, h2⟩ := H.own hb
  exact ⟨ρ id, _, H.hin id o h1, ρ id, List.mem_cons_self, h2⟩

def callX (O : Org) (h : Hp) (G : Ctx) (hc : Hp) (ρ : Nat → Nat) : Nat → Prop := fun b => XX O h G b ∧ ¬ Own hc (G.via ρ) b

theorem Handed.start {O : Org} {env : Env} {h : Hp} {a : Act} {w : World} {G : Ctx} {hc : Hp} {ρ : Nat → Nat} (H : Handed O env h G hc ρ) (r : Rel O env h a w G) (ids : List Nat) :
    Rel (org w (callX O h G hc ρ) hc (G.via ρ) ids 0) [] hc noAct w (G.via ρ) := by
  have hX : ∀ b, XX (org w (callX O h G hc ρ) hc (G.via ρ) ids 0) hc (G.via ρ) b → XX O h G b := by
    intro b hb
    rcases hb with hb | hb
    · exact hb.1
    · exact .inr (H.own' hb)
  refine ⟨rfl, rfl, fun t => .any _, fun id o ho => ?_, fun id o j id' o' j' b h1 h2 h3 h4 h5 h6 => ?_, Ext.refl _ w, fun b hb _ => hb, fun b hb => ⟨r.lt hb.1, hb.2⟩, fun id _ => rfl⟩
  · exact (r.obj _ _ (H.hin id o ho)).unren.mono (fun b _ hb => hX b hb)
  · rw [H.nm id o h1] at h2
    rw [H.nm id' o' h3] at h4
    have e1 : j = id := by simpa using h2
    have e2 : j' = id' := by simpa using h4
    subst e1; subst e2
    have := r.dist _ _ (ρ j) _ _ (ρ j') b (H.hin j o h1) List.mem_cons_self (H.hin j' o' h3) List.mem_cons_self h5 h6
    have := H.inj j o j' o' h1 h3 this.1
    exact ⟨this, this⟩

structure Left (O : Org) (env : Env) (h : Hp) (G G'' : Ctx) (hc h' h'' : Hp) (G' : Ctx) (ids : List Nat) (ρ τ : Nat → Nat) (N : Nat → Prop) : Prop where
  hids : ∀ id o, hget hc id = some o → id ∈ ids
  same : ∀ id o, hget hc id = some o → τ id = ρ id
  out : ∀ id o, hget hc id = some o → ∃ o', hget h' id = some o' ∧ sameLen o o'
  new : ∀ c, N c → freshAt (τ c) env h ∧ τ c ∉ O.ids ∧ hget hc c = none ∧ ∃ o, hget h' c = some o
  newInj : ∀ c c', N c → N c' → τ c = τ c' → c = c'
  g1 : ∀ c, N c → G''.m (τ c) = G'.m c ∧ G''.len (τ c) = G'.len c
  g2 : ∀ i, (∀ c, N c → τ c ≠ i) → G''.m i = G.m i ∧ G''.len i = G.len i
  heap : ∀ i o, hget h'' i = some o → (∃ id o', ((∃ o1, hget hc id = some o1) ∨ N id) ∧ hget h' id = some o' ∧ i = τ id ∧ o = renO τ o' ∧ names o' = [] ∧ (∀ j, freshO j o' = false → (∃ o1, hget hc j = some o1) ∨ N j)) ∨
    (hget h i = some o ∧ ∀ id o1, hget hc id = some o1 → ρ id ≠ i)

section
variable {O : Org} {env : Env} {h : Hp} {a : Act} {w w' : World} {G G' G'' : Ctx} {hc h' h'' : Hp} {ids : List Nat} {ρ τ : Nat → Nat} {N : Nat → Prop}

theorem Left.ctx (H : Handed O env h G hc ρ) (L : Left O env h G G'' hc h' h'' G' ids ρ τ N) (r : Rel O env h a w G) (r' : Rel (org w (callX O h G hc ρ) hc (G.via ρ) ids 0) [] h' noAct w' G') :
    ∀ j, ((∃ o1, hget hc j = some o1) ∨ N j) → G''.m (τ j) = G'.m j ∧ ((∃ A l c, G'.m j = .slice A l c) → G''.len (τ j) = G'.len j) := by
  intro j hj
  rcases hj with ⟨o1, hj⟩ | hj
  · have hne : ∀ c, N c → τ c ≠ τ j := by
      intro c hc' e
      have := (L.new c hc').1.2.2
      rw [e, L.same j o1 hj, H.hin j o1 hj] at this
      cases this
    obtain ⟨e1, e2⟩ := L.g2 (τ j) hne
    have e3 : G'.m j = G.m (ρ j) := r'.ids j (L.hids j o1 hj)
    rw [L.same j o1 hj] at e1 e2
    rw [L.same j o1 hj]
    refine ⟨e1.trans e3.symm, fun hs => ?_⟩
    obtain ⟨o', ho', hl⟩ := L.out j o1 hj
    obtain ⟨e, s, es, rfl, hlen⟩ := (r'.obj j o' ho').lenOf hs
    obtain ⟨e', s', es', rfl, hlen'⟩ := ((H.start r ids).obj j o1 hj).lenOf (by rw [e3] at hs; exact hs)
    rw [e2, hlen]
    exact hlen'.trans hl
  · exact ⟨(L.g1 j hj).1, fun _ => (L.g1 j hj).2⟩

theorem Left.newBlock (L : Left O env h G G'' hc h' h'' G' ids ρ τ N) (H : Handed O env h G hc ρ) (r' : Rel (org w (callX O h G hc ρ) hc (G.via ρ) ids 0) [] h' noAct w' G') {c b : Nat} (hc' : N c) (hb : blk (G'.m c) = some b) : w.heap.size ≤ b := by
  obtain ⟨_, _, hn, o, ho⟩ := L.new c hc'
  rcases Nat.lt_or_ge b w.heap.size with hlt | hge
  · exfalso
    have : Own hc (G.via ρ) b := r'.own b ⟨c, o, ho, c, List.mem_cons_self, hb⟩ hlt
    obtain ⟨id, o1, h1, h2⟩ := H.own this
    obtain ⟨o', ho', _⟩ := L.out id o1 h1
    have e3 : G'.m id = G.m (ρ id) := r'.ids id (L.hids id o1 h1)
    have := r'.dist c o c id o' id b ho List.mem_cons_self ho' List.mem_cons_self hb (by rw [e3]; exact h2)
    rw [this.1] at hn
    rw [hn] at h1; cases h1
  · exact hge

theorem Left.ownCase (H : Handed O env h G hc ρ) (L : Left O env h G G'' hc h' h'' G' ids ρ τ N) (r : Rel O env h a w G) (r' : Rel (org w (callX O h G hc ρ) hc (G.via ρ) ids 0) [] h' noAct w' G')
    {i j b : Nat} {o : AObj} (h1 : hget h'' i = some o) (hj : j ∈ i :: names o) (hb : blk (G''.m j) = some b) :
    (∃ id o', ((∃ o1, hget hc id = some o1) ∨ N id) ∧ hget h' id = some o' ∧ i = τ id ∧ j = τ id ∧ o = renO τ o' ∧ blk (G'.m id) = some b ∧
      ((N id ∧ w.heap.size ≤ b) ∨ (∃ o1, hget hc id = some o1 ∧ blk (G.m i) = some b ∧ hget h i = some (renO ρ o1) ∧ b < w.heap.size))) ∨
    (hget h i = some o ∧ (∀ id o1, hget hc id = some o1 → ρ id ≠ i) ∧ blk (G.m j) = some b ∧ b < w.heap.size) := by
  rcases L.heap i o h1 with ⟨id, o', hk, ho', hi, ho, hnm, hfr⟩ | ⟨hi, hne⟩
  · left
    rw [ho, names_ren, hnm] at hj
    have hji : j = i := by simpa using hj
    have hctx := L.ctx H r r' id hk
    rw [hji, hi, hctx.1] at hb
    refine ⟨id, o', hk, ho', hi, hji.trans hi, ho, hb, ?_⟩
    rcases hk with ⟨o1, hk⟩ | hk
    · right
      have e3 : G'.m id = G.m (ρ id) := r'.ids id (L.hids id o1 hk)
      have hs := L.same id o1 hk
      refine ⟨o1, hk, by rw [hi, hs, ← e3]; exact hb, by rw [hi, hs]; exact H.hin id o1 hk, (r.obj _ _ (H.hin id o1 hk)).lt List.mem_cons_self (by rw [← e3]; exact hb)⟩
    · exact .inl ⟨hk, L.newBlock H r' hk hb⟩
  · right
    have hjf : ∀ c, N c → τ c ≠ j := by
      intro c hc' e
      obtain ⟨⟨_, f2, f3⟩, _⟩ := L.new c hc'
      rcases List.mem_cons.1 hj with e' | e'
      · rw [e, e', hi] at f3; cases f3
      · exact names_ne (f2 i o hi) e' e.symm
    rw [(L.g2 j hjf).1] at hb
    exact ⟨hi, hne, hb, (r.obj i o hi).lt hj hb⟩

theorem Left.xOld (H : Handed O env h G hc ρ) (L : Left O env h G G'' hc h' h'' G' ids ρ τ N) (r : Rel O env h a w G) (r' : Rel (org w (callX O h G hc ρ) hc (G.via ρ) ids 0) [] h' noAct w' G')
    {b : Nat} (hlt : b < w.heap.size) (hb : XX O h'' G'' b) : XX O h G b := by
  rcases hb with hb | ⟨i, o, h1, j, hj, hb⟩
  · exact .inl hb
  · rcases L.ownCase H r r' h1 hj hb with ⟨id, o', _, _, _, _, _, _, h8⟩ | ⟨g1, _, g3, _⟩
    · rcases h8 with ⟨_, h8⟩ | ⟨o1, _, g2, g3, _⟩
      · omega
      · exact .inr ⟨i, _, g3, i, List.mem_cons_self, g2⟩
    · exact .inr ⟨i, o, g1, j, hj, g3⟩
theorem Left.xNew (H : Handed O env h G hc ρ) (L : Left O env h G G'' hc h' h'' G' ids ρ τ N) (r : Rel O env h a w G) (r' : Rel (org w (callX O h G hc ρ) hc (G.via ρ) ids 0) [] h' noAct w' G')
    {b : Nat} (hb : XX O h'' G'' b) : XX (org w (callX O h G hc ρ) hc (G.via ρ) ids 0) h' G' b := by
  rcases hb with hb | ⟨i, o, h1, j, hj, hb⟩
  · refine .inl ⟨.inl hb, fun ho => ?_⟩
    have := r.own b (H.own' ho) (r.xlt b hb).1
    exact (r.xlt b hb).2 this
  · rcases L.ownCase H r r' h1 hj hb with ⟨id, o', _, h3, _, _, _, h7, _⟩ | ⟨g1, g2, g3, _⟩
    · exact .inr ⟨id, o', h3, id, List.mem_cons_self, h7⟩
    · refine .inl ⟨.inr ⟨i, o, g1, j, hj, g3⟩, fun ho => ?_⟩
      obtain ⟨id, o1, k1, k2⟩ := H.own ho
      have := r.dist i o j (ρ id) _ (ρ id) b g1 hj (H.hin id o1 k1) List.mem_cons_self g3 k2
      exact g2 id o1 k1 this.1.symm

/-- The caller's state behind the call. -/
theorem Left.rel (H : Handed O env h G hc ρ) (L : Left O env h G G'' hc h' h'' G' ids ρ τ N) (r : Rel O env h a w G) (r' : Rel (org w (callX O h G hc ρ) hc (G.via ρ) ids 0) [] h' noAct w' G') :
    Rel O env h'' a w' G'' := by
  have he : Ext (Own hc (G.via ρ)) w w' := r'.ext
  have hC : ∀ b, b < w.heap.size → Own hc (G.via ρ) b → XX O h G b := fun b _ hb => .inr (H.own' hb)
  have hX : ∀ b, b < w.heap.size → XX O h'' G'' b → XX O h G b := fun b hlt hb => L.xOld H r r' hlt hb
  have ctxOld : ∀ i, (∀ c, N c → τ c ≠ i) → G''.m i = G.m i ∧ G''.len i = G.len i := L.g2
  have hrep : ∀ {x : AV} {v : Value}, (∀ c, N c → fresh (τ c) x = true) → Rep w (XX O h G) G x v → Rep w' (XX O h'' G'') G'' x v := by
    intro x v hf hr
    refine (hr.sameCtx (G' := G'') (fun id hid => ?_)).ext he hC hX (GStep.refl _)
    have := ctxOld id (fun c hc' e => by have := hf c hc'; rw [e, hid] at this; cases this)
    exact ⟨this.1, fun _ => this.2⟩
  refine ⟨r.size, r.dfr, fun t => hrep (fun c hc' => (L.new c hc').1.1 t) (r.env t), fun i o h1 => ?_, fun i o j i' o' j' b h1 hj h2 hj' e1 e2 => ?_, ?_, fun b hb hlt => ?_, r.xlt, fun i hi => ?_⟩
  · rcases L.heap i o h1 with ⟨id, o', hk, ho', hi, ho, hnm, hfr⟩ | ⟨hi, hne⟩
    · rw [hi, ho]
      exact ((r'.obj id o' ho').ren (L.ctx H r r' id hk) (fun j hj => L.ctx H r r' j (hfr j hj))).mono (fun b _ hb => L.xNew H r r' hb)
    · have hf : ∀ c, N c → freshO (τ c) o = true ∧ τ c ≠ i := fun c hc' => by
        obtain ⟨⟨_, f2, f3⟩, _⟩ := L.new c hc'
        exact ⟨f2 i o hi, fun e => by rw [e, hi] at f3; cases f3⟩
      have hob := (r.obj i o hi).sameCtx (G' := G'') (ctxOld i (fun c hc' => (hf c hc').2)) (fun j hj => ctxOld j (fun c hc' e => by have := (hf c hc').1; rw [e, hj] at this; cases this))
      have hjf : ∀ j ∈ i :: names o, ∀ c, N c → τ c ≠ j := by
        intro j hj c hc' e
        rcases List.mem_cons.1 hj with e' | e'
        · exact (hf c hc').2 (e.trans e')
        · exact names_ne (hf c hc').1 e' e.symm
      refine hob.ext he hC hX (fun hr => hr.ext he hC hX (GStep.refl _)) (fun _ _ => ⟨rfl, rfl⟩) (fun j b hj hb ho => ?_)
      rw [(ctxOld j (hjf j hj)).1] at hb
      obtain ⟨id, o1, k1, k2⟩ := H.own ho
      have := r.dist i o j (ρ id) _ (ρ id) b hi hj (H.hin id o1 k1) List.mem_cons_self hb k2
      exact hne id o1 k1 this.1.symm
  · rcases L.ownCase H r r' h1 hj e1 with ⟨id, ob, k1, k2, k3, k4, k5, k6, k7⟩ | ⟨k1, k2, k3, k4⟩
    · rcases L.ownCase H r r' h2 hj' e2 with ⟨id', ob', l1, l2, l3, l4, l5, l6, l7⟩ | ⟨l1, l2, l3, l4⟩
      · have := (r'.dist id ob id id' ob' id' b k2 List.mem_cons_self l2 List.mem_cons_self k6 l6).1
        subst this
        exact ⟨k3.trans l3.symm, k4.trans l4.symm⟩
      · rcases k7 with ⟨_, k7⟩ | ⟨o1, k8, k9, k10, _⟩
        · omega
        · have e := r.dist i _ i i' o' j' b k10 List.mem_cons_self l1 hj' k9 l3
          exact ⟨e.1, (k4.trans k3.symm).trans e.2⟩
    · rcases L.ownCase H r r' h2 hj' e2 with ⟨id', ob', l1, l2, l3, l4, l5, l6, l7⟩ | ⟨l1, l2, l3, l4⟩
      · rcases l7 with ⟨_, l7⟩ | ⟨o1, l8, l9, l10, _⟩
        · omega
        · have e := r.dist i o j i' _ i' b k1 hj l10 List.mem_cons_self k3 l9
          exact ⟨e.1, e.2.trans (l3.trans l4.symm)⟩
      · exact r.dist i o j i' o' j' b k1 hj l1 hj' k3 l3
  · exact r.ext.transNew he (fun b hlt hb => r.own b (H.own' hb) hlt)
  · obtain ⟨i, o, h1, j, hj, hb⟩ := hb
    have h0 := r.ext.size
    rcases L.ownCase H r r' h1 hj hb with ⟨id, o', _, _, _, _, _, _, h8⟩ | ⟨g1, _, g3, _⟩
    · rcases h8 with ⟨_, h8⟩ | ⟨o1, _, g2, g3, _⟩
      · omega
      · exact r.own b ⟨i, _, g3, i, List.mem_cons_self, g2⟩ hlt
    · exact r.own b ⟨i, o, g1, j, hj, g3⟩ hlt
  · rw [(ctxOld i (fun c hc' e => (L.new c hc').2.1 (e ▸ hi))).1]
    exact r.ids i hi
/-- and what it handed back -/
theorem Left.res (H : Handed O env h G hc ρ) (L : Left O env h G G'' hc h' h'' G' ids ρ τ N) (r : Rel O env h a w G) (r' : Rel (org w (callX O h G hc ρ) hc (G.via ρ) ids 0) [] h' noAct w' G') {x : AV} {v : Value}
    (hx : ∀ j, fresh j x = false → (∃ o1, hget hc j = some o1) ∨ N j) (hr : Rep w' (XX (org w (callX O h G hc ρ) hc (G.via ρ) ids 0) h' G') G' x v) : Rep w' (XX O h'' G'') G'' (ren τ x) v :=
  (hr.ren (fun j hj => L.ctx H r r' j (hx j hj))).ext (Ext.refl (fun _ => False) w') (fun _ _ h => h.elim) (fun _ _ hb => L.xNew H r r' hb) (GStep.refl _)

theorem AC.atH {P : Program} {f : FuncId} {args : List AV} {R : AV → Hp → Prop} (C : AC P f args hc ids R) (H : Handed O env h G hc ρ) (r : Rel O env h a w G) {vs : List Value} (hl : vs.length = args.length)
    (hv : ∀ (i : Nat) (x : AV) (v : Value), args[i]? = some x → vs[i]? = some v → Rep w (XX O h G) G (ren ρ x) v) :
    Calls P f vs.toArray w fun e w' => ∃ v x h' G', e = .returned v ∧ Rel (org w (callX O h G hc ρ) hc (G.via ρ) ids 0) [] h' noAct w' G' ∧ Rep w' (XX (org w (callX O h G hc ρ) hc (G.via ρ) ids 0) h' G') G' x v ∧ R x h' := by
  refine C.2 w (callX O h G hc ρ) (G.via ρ) vs (H.start r ids) hl (fun i x v hx hvv => ((hv i x v hx hvv).unren).ext (Ext.refl (fun _ => False) w) (fun _ _ h => h.elim) (fun b _ hb => ?_) (GStep.refl _))
  rcases hb with hb | hb
  · exact hb.1
  · exact .inr (H.own' hb)
end
end Go.SL
