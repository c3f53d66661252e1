/- The layer 'SL': a loop over a function: yield, rounds. -/
import Derived.Test.YtodgjgkoaahhmaaGreatDoorSx
import Derived.RangeFuncLeaves
import Derived.RangeFuncSeq
namespace Go.SL
open Go.RowKit Go.MapKept

/-! ### the fenced walk, of the wide fence, outside and inside of a round -/
def wideR (r : Option Nat) : Fence := { Fence.wide with round := r }
theorem opIn {P : Program} {o : Oper} {a : Act} {w : World} {next next' : Act → World → Prop} {Q Q' : Exit → Act → World → Prop} {r : Option Nat} {n : Nat} (hnd : ∀ c, o.op ≠ .defer c) (h : o.wp P a w next Q) (hn : ∀ a w, next a w → next' a w) (hq : ∀ e a w, Q e a w → Q' e a w) :
    o.wpIn (wideR r) n P a w next' Q' := by
  refine ⟨fun f _ => trivial, ?_⟩
  rw [Oper.semAt_eq _ _ _ hnd]
  unfold Oper.wp at h
  revert h
  generalize (execOp a.eval o).run P w = res
  intro h
  cases res with
  | ok nx w' =>
    cases nx with
    | value v => exact hn _ _ h
    | skip => exact hn _ _ h
    | defer d => exact hn _ _ h
    | enter f args =>
      refine ⟨fun h => (by cases h), ?_⟩
      have h1 : CallsIn Fence.wide (n - 1) P f args w' _ := callsIn_wide.2 h
      have h2 : CallsIn (wideR r) (n - 1) P f args w' _ := h1
      refine h2.mono (fun e w'' he => ?_)
      cases e with
      | returned v => exact hn _ _ he
      | panicked c => exact hq _ _ _ he
      | outgrown => obtain ⟨a0, w0, h0⟩ := he; exact ⟨a0, w0, hq _ _ _ h0⟩
    | row row args =>
      refine ⟨fun h => (by cases h), fun c cs _ => ?_⟩
      obtain ⟨v, w'', h1, h2⟩ := h c cs
      exact ⟨v, w'', hn _ _ h1, stepsIn_wide.2 h2⟩
    | _ => exact h.elim
  | halt hl w' =>
    cases hl with
    | panic v => exact hq _ _ _ h
    | _ => exact h.elim
/-- A region's operations, one behind the other, as the fenced walk meets them. -/
def EvI (P : Program) (r : Option Nat) (n : Nat) (O : Org) (all rest : List Oper) (env : Env) (h : Hp) (Q : Exit → Env → Hp → Prop) : Prop :=
  ∀ a w G, Rel O env h a w G → wpListIn (wideR r) n P all.toArray (lift O Q) rest a w
section
variable {P : Program} {O : Org} {T : Tab P} {Q : Exit → Env → Hp → Prop} {env : Env} {h : Hp} {all rest : List Oper} {o : Oper} {r : Option Nat} {n : Nat}
theorem Ei_nil (H : Q .normal env h) : EvI P r n O all [] env h Q := fun _ _ G r => ⟨env, h, G, r, H⟩
def notDefer (o : Oper) : Bool := match o.op with | .defer _ => false | _ => true
theorem notDefer_ok (h : notDefer o = true) : ∀ c, o.op ≠ .defer c := by
  intro c e
  unfold notDefer at h
  rw [e] at h
  cases h
theorem Ei_step {av : AV} {Ts Ns : List Nat} {u : Hp} (hnd : notDefer o = true) (hw : wantedA all env o = some true) (hs : LStep P O o env h Ts Ns av u) (hf : newB Ns env h = true)
    (K : EvI P r n O all rest (upd env o.dst av) (u ++ h) Q) : EvI P r n O all (o :: rest) env h Q := by
  intro a w G rr
  unfold wpListIn
  rw [if_pos (wantedA_ok rr hw)]
  exact opIn (notDefer_ok hnd) (hs env h (fun _ _ => rfl) (fun _ _ => rfl) (newB_at hf) a w G rr _ (lift O Q) (fun v w' G' r' => K _ _ _ r')) (fun _ _ h => h) (fun _ _ _ h => h)
theorem Ei_q {t : Nat} {av : AV} {Ts : List Nat} (hnd : notDefer o = true) (hd : o.dst = some t) (hw : wantedA all env o = some true) (hs : LStep P O o env h Ts [] av []) (K : EvI P r n O all rest ((t, av) :: env) h Q) : EvI P r n O all (o :: rest) env h Q :=
  Ei_step hnd hw hs rfl (by rw [hd]; exact K)
theorem Ei_x {t i : Nat} {ob : Option AObj} {av : AV} {Ts Ns : List Nat} (hnd : notDefer o = true) (hd : o.dst = some t) (hw : wantedA all env o = some true) (hs : LStep P O o env h Ts Ns av [(i, ob)]) (hf : newB Ns env h = true)
    (K : EvI P r n O all rest ((t, av) :: env) ((i, ob) :: h) Q) : EvI P r n O all (o :: rest) env h Q := Ei_step hnd hw hs hf (by rw [hd]; exact K)
theorem Ei_n {i : Nat} {ob : Option AObj} {av : AV} {Ts Ns : List Nat} (hnd : notDefer o = true) (hd : o.dst = none) (hw : wantedA all env o = some true) (hs : LStep P O o env h Ts Ns av [(i, ob)]) (hf : newB Ns env h = true)
    (K : EvI P r n O all rest env ((i, ob) :: h) Q) : EvI P r n O all (o :: rest) env h Q := Ei_step hnd hw hs hf (by rw [hd]; exact K)
theorem AW_regionI {id : Nat} {l : List Oper} (H : EvI P none 0 O l l env h Q) : AW P O (.region id l.toArray false) Q env h := by
  intro a w G rr
  have : (Code.region id l.toArray false).wpIn Fence.wide 0 P (lift O Q) a w := wpIn_region_lit (H a w G rr)
  exact wpIn_wide.1 this

/-! ### objects that are told whole -/
theorem Rel.turnRaw {a : Act} {w : World} {G : Ctx} {id b : Nat} {ob ob' : Obj} (r : Rel O env h a w G) (hh : hget h id = some (.raw b ob)) : Rel O env ((id, some (.raw b ob')) :: h) a (w.putObj b ob') G := by
  obtain ⟨e1, e2⟩ := r.obj id _ hh
  have hlt := heap_lt e2
  have hext : Ext (fun n => n = b) w (w.putObj b ob') := ⟨rfl, rfl, rfl, by simp, fun n _ hne => World.putObj_heap_other hne, Nat.le_refl _⟩
  exact r.turn (o' := .raw b ob') hh hext (fun n _ hc => ⟨id, List.mem_cons_self, by subst hc; rw [e1]; rfl⟩) (GStep.refl G) (fun _ _ => ⟨rfl, rfl⟩) (fun _ => rfl) rfl (fun _ h _ => h) ⟨e1, World.putObj_heap_same hlt⟩ (fun _ h => .inr h) (by simp [names])
theorem Rel.newRaw {a : Act} {w : World} {G : Ctx} {id : Nat} {ob : Obj} (r : Rel O env h a w G) (hf : freshAt id env h) (hid : id ∉ O.ids) :
    Rel O env ((id, some (.raw w.heap.size ob)) :: h) a (w.alloc ob) (G.set id (.pointer (some ⟨w.heap.size, 0, none⟩)) 0) :=
  r.new (ob := ob) (id := id) (mv := .pointer (some ⟨w.heap.size, 0, none⟩)) (n := 0) (o := .raw w.heap.size ob) hf hid rfl (fun b hb => by cases hb; rfl) ⟨G.set_m _ _ _, (heap_alloc w _).1⟩

/-! ### the origin moved: names that keep their places from here on -/
def Org.keep (O : Org) (ids : List Nat) (G : Ctx) (nt : Nat) : Org := ⟨O.w0, O.X, O.own0, ids, G, nt⟩
/-- what a slot holds whatever happens to objects, but to those that keep their places -/
def stab (ids : List Nat) : AV → AV
  | .d (.sc v) => .d (.sc v)
  | .it id => bif hasN ids id then .it id else .any
  | .ptr id q => bif hasN ids id then .ptr id q else .any
  | .mp id => bif hasN ids id then .mp id else .any
  | _ => .any
def stabE (ids : List Nat) (env : Env) : Env := env.map fun p => (p.1, stab ids p.2)
theorem lk_stabE (ids : List Nat) : ∀ (env : Env) (t : Nat), lk (stabE ids env) t = stab ids (lk env t)
  | [], t => rfl
  | (s, v) :: e, t => by
    show lk ((s, stab ids v) :: stabE ids e) t = _
    rw [lk_cons, lk_cons, lk_stabE ids e t]
    split <;> rfl
theorem stab_rep {ids : List Nat} {w w' : World} {X X' : Nat → Prop} {G G' : Ctx} {x : AV} {v : Value} (hr : Rep w X G x v) (hg : ∀ id ∈ ids, G'.m id = G.m id) : Rep w' X' G' (stab ids x) v := by
  cases hr with
  | d x v h =>
    cases h with
    | sc v h1 => exact .d _ _ (.sc v h1)
    | sl => exact .any _
  | ptr id off b h =>
    show Rep w' X' G' (bif hasN ids id then AV.ptr id off else .any) _
    cases hb : hasN ids id with
    | false => exact .any _
    | true => exact .ptr id off b ((hg id (hasN_mem.1 hb)).trans h)
  | mp id b h =>
    show Rep w' X' G' (bif hasN ids id then AV.mp id else .any) _
    cases hb : hasN ids id with
    | false => exact .any _
    | true => exact .mp id b ((hg id (hasN_mem.1 hb)).trans h)
  | it id b h =>
    show Rep w' X' G' (bif hasN ids id then AV.it id else .any) _
    cases hb : hasN ids id with
    | false => exact .any _
    | true => exact .it id b ((hg id (hasN_mem.1 hb)).trans h)
  | _ => exact .any _
/-! ### what a call leaves, told apart from the call -/
/-- The caller's state behind a call that was handed objects. -/
theorem callG_after {hc hr h'' : Hp} {ids gs : List Nat} {rv : AV} {pi pn : List (Nat × Nat)} {a : Act} {w w' : World} {G G' : Ctx} {v : Value} {env' : Env} {h' : Hp} (r : Rel O env' h' a w G) (hN : ∀ id ∈ pn.map (·.2), freshAt id env' h')
    (H : Handed O env' h' G hc (asg pi)) (hk : callOkG O ids gs hc hr rv pi pn = true) (hl : LenG gs hr hc) (r' : Rel (org w (callX O h' G hc (asg pi)) hc (G.via (asg pi)) ids 0) [] h'' noAct w' G')
    (hxr : Rep w' (XX (org w (callX O h' G hc (asg pi)) hc (G.via (asg pi)) ids 0) h'' G') G' rv v) (hsub : SubH hr h'') :
    ∃ G2, Rel O env' (renH (asg (pi ++ pn)) hr ++ h') a w' G2 ∧ Rep w' (XX O (renH (asg (pi ++ pn)) hr ++ h') G2) G2 (ren (asg (pi ++ pn)) rv) v := by
  unfold callOkG at hk
  simp only [Bool.and_eq_true, List.all_eq_true] at hk
  obtain ⟨⟨⟨⟨⟨⟨⟨⟨k1, k2⟩, k3⟩, k4⟩, k5⟩, k6⟩, k7⟩, k8⟩, k9⟩ := hk
  have hsome : ∀ p ∈ hc, ∃ o, p.2 = some o := by
    intro p hp
    have := k7 p hp
    cases hp2 : p.2 with
    | none => rw [hp2] at this; cases this
    | some o => exact ⟨o, rfl⟩
  have keyOf : ∀ id, id ∈ keysH hc → ∃ o, hget hc id = some o := fun id hid => hget_of_key hsome hid
  have newKey : ∀ c, (∃ d, (c, d) ∈ pn) → c ∉ keysH hc := by
    rintro c ⟨d, hcd⟩ hm
    have := (k2 c hm).2
    simp only [Bool.not_eq_true'] at this
    have h2 : hasN (pn.map (·.1)) c = true := hasN_mem.2 (List.mem_map.2 ⟨(c, d), hcd, rfl⟩)
    rw [h2] at this; cases this
  have outKey : ∀ c, c ∈ keysH hr → ∃ o', (c, some o') ∈ hr := by
    intro c hc'
    unfold keysH at hc'
    obtain ⟨⟨c', v⟩, h1, rfl⟩ := List.mem_map.1 hc'
    have := k6 _ h1
    cases v with
    | none => cases this
    | some o' => exact ⟨o', h1⟩
  have cls : ∀ j, j ∈ keysH hc ++ pn.map (·.1) → (∃ o1, hget hc j = some o1) ∨ ∃ d, (j, d) ∈ pn := by
    intro j hj
    rcases List.mem_append.1 hj with hj | hj
    · exact .inl (keyOf j hj)
    · obtain ⟨⟨c, d⟩, h1, rfl⟩ := List.mem_map.1 hj
      exact .inr ⟨d, h1⟩
  have τn : ∀ c d, (c, d) ∈ pn → asg (pi ++ pn) c = d := fun c d hcd => Nat.eq_of_beq_eq_true (k3 _ hcd).2
  have fnd : ∀ c d, (c, d) ∈ pn → ∃ p, pn.find? (fun p => p.2 == d) = some p ∧ p.1 = c := by
    intro c d hcd
    cases hf : pn.find? (fun p => p.2 == d) with
    | none =>
      rw [List.find?_eq_none] at hf
      exact absurd (hf _ hcd) (by simp)
    | some p =>
      have h1 := List.mem_of_find?_eq_some hf
      have h2 : p.2 = d := by simpa using List.find?_some hf
      have := k4 p h1 (c, d) hcd
      rw [Bool.or_eq_true] at this
      rcases this with e | e
      · exact ⟨p, rfl, Nat.eq_of_beq_eq_true e⟩
      · exact absurd h2 (beq_false_ne e)
  have gsK : ∀ g, g ∈ gs → ∃ o, hget hc g = some o := fun g hg => keyOf g (hasN_mem.1 (by have := (k9 g hg).1; exact this))
  have pnNot : ∀ g o, hget hc g = some o → pn.find? (fun p => p.2 == asg pi g) = none := by
    intro g o hg
    rw [List.find?_eq_none]
    intro p hp hpe
    have hpe' : p.2 = asg pi g := by simpa using hpe
    have hf := (hN p.2 (List.mem_map.2 ⟨p, hp, rfl⟩)).2.2
    rw [hpe', H.hin g o hg] at hf
    cases hf
  generalize hpg : pn ++ gs.map (fun g => (g, asg pi g)) = pg
  have L : Left O env' h' G (afterCtx G G' pg) hc h'' (renH (asg (pi ++ pn)) hr ++ h') G' ids (asg pi) (asg (pi ++ pn)) (fun c => ∃ d, (c, d) ∈ pn) (fun g => g ∈ gs) := by
    refine ⟨fun id o ho => ?_, fun id o ho => ?_, fun c hc' => ?_, fun c c' h1 h2 e => ?_, fun c hc' => ?_, fun i hi hi2 => ?_, fun c o ho hg => ?_, fun c o ho hg hm => ?_, fun i o1 ho => ?_⟩
    · exact Nat.eq_of_beq_eq_true (k2 id (mem_keysH ho).1).1.2
    · obtain ⟨o', h1, h2, h3⟩ := hl.get id o ho
      refine ⟨o', hsub.each id o' h1, ?_, fun hg => h3 (hasN_mem.2 hg)⟩
      cases hb : hasN gs id with
      | true => exact .inr ⟨hasN_mem.1 hb, h3 hb⟩
      | false =>
        have := (k2 id (mem_keysH ho).1).1.1.1
        rw [hb, Bool.or_false] at this
        exact .inl ⟨hasN_mem.1 this, h2 hb⟩
    · obtain ⟨d, hcd⟩ := hc'
      have h3 := k3 _ hcd
      rw [τn c d hcd]
      refine ⟨hN d (List.mem_map.2 ⟨(c, d), hcd, rfl⟩), fun hm => ?_, ?_, ?_⟩
      · have := h3.1.1
        simp only [Bool.not_eq_true'] at this
        rw [hasN_mem.2 hm] at this; cases this
      · cases hg : hget hc c with
        | none => rfl
        | some o => exact absurd (mem_keysH hg).1 (newKey c ⟨d, hcd⟩)
      · obtain ⟨o', ho'⟩ := outKey c (hasN_mem.1 h3.1.2)
        exact ⟨o', hsub.mem ho'⟩
    · obtain ⟨d, hcd⟩ := h1
      obtain ⟨d', hcd'⟩ := h2
      rw [τn c d hcd, τn c' d' hcd'] at e
      have := k4 _ hcd _ hcd'
      rw [Bool.or_eq_true] at this
      rcases this with e' | e'
      · exact Nat.eq_of_beq_eq_true e'
      · exact absurd e (beq_false_ne e')
    · obtain ⟨d, hcd⟩ := hc'
      rw [τn c d hcd]
      obtain ⟨p, hp, rfl⟩ := fnd c d hcd
      have hp' : pg.find? (fun p => p.2 == d) = some p := by rw [← hpg, List.find?_append, hp]; rfl
      unfold afterCtx
      simp only [hp', and_self]
    · have : pg.find? (fun p => p.2 == i) = none := by
        rw [List.find?_eq_none, ← hpg]
        intro p hp
        rcases List.mem_append.1 hp with hp | hp
        · have := hi p.1 ⟨p.2, hp⟩
          rw [τn p.1 p.2 hp] at this
          simpa using this
        · obtain ⟨g, hg, rfl⟩ := List.mem_map.1 hp
          obtain ⟨o, ho⟩ := gsK g hg
          simpa using hi2 g o ho hg
      unfold afterCtx
      simp only [this, and_self]
    · have hp' : ∃ p, pg.find? (fun p => p.2 == asg pi c) = some p ∧ p.1 = c := by
        rw [← hpg, List.find?_append, pnNot c o ho, Option.none_or]
        cases hf : (gs.map (fun g => (g, asg pi g))).find? (fun p => p.2 == asg pi c) with
        | none =>
          rw [List.find?_eq_none] at hf
          exact absurd (hf _ (List.mem_map.2 ⟨c, hg, rfl⟩)) (by simp)
        | some p =>
          have h1 := List.mem_of_find?_eq_some hf
          have h2 : p.2 = asg pi c := by simpa using List.find?_some hf
          obtain ⟨g, hg', rfl⟩ := List.mem_map.1 h1
          obtain ⟨o2, ho2⟩ := gsK g hg'
          exact ⟨_, rfl, H.inj g o2 c o ho2 ho h2⟩
      obtain ⟨p, hp, rfl⟩ := hp'
      unfold afterCtx
      simp only [hp, and_self]
    · have := (k9 c hg).2
      simp only [Bool.not_eq_true'] at this
      rw [hasN_mem.2 hm] at this; cases this
    · rw [hget_append] at ho
      by_cases hm : i ∈ keysH (renH (asg (pi ++ pn)) hr)
      · rw [if_pos hm] at ho
        obtain ⟨id, o', h1, h2, h3⟩ := renH_get ho
        have h6 := k6 _ h1
        simp only [Bool.and_eq_true] at h6
        have h7 := onlyO_spec h6.2
        exact .inl ⟨id, o', cls id (hasN_mem.1 h6.1), hsub.mem h1, h2, h3, h7.1, fun j hj => cls j (h7.2 j hj)⟩
      · rw [if_neg hm] at ho
        refine .inr ⟨ho, fun id o2 h1 e => hm ?_⟩
        rw [keysH_renH]
        have h2 := k2 id (mem_keysH h1).1
        exact List.mem_map.2 ⟨id, hasN_mem.1 h2.1.1.2, (Nat.eq_of_beq_eq_true h2.1.2).trans e⟩
  exact ⟨_, L.rel H r r', L.res H r r' (fun j hj => cls j (only_in k8 hj)) hxr⟩
def hcOk (hc : Hp) (pi : List (Nat × Nat)) : Bool := ((keysH hc).all fun i => (keysH hc).all fun j => Nat.beq i j || !Nat.beq (asg pi i) (asg pi j)) && (hc.all fun p => match p.2 with | some o => onlyO (keysH hc) o | none => true)
/-- A call whose outcome is one of some. -/
theorem Es_callEx {ι : Type} {f : FuncId} {args : List AV} {hc : Hp} {hr : ι → Hp} {ids : List Nat} {rv : ι → AV} {I : ι → Prop} {t : Nat} (gs : List Nat) (pi pn : List (Nat × Nat)) (C : AC P f args hc ids (fun r h' => ∃ i, I i ∧ r = rv i ∧ SubH (hr i) h')) (ha : callA env o.op = some (f, ren.renL (asg pi) args))
    (hw : wantedA all env o = some true) (hd : o.dst = some t) (hdk : dstOk (some t) O.nt = true) (hin : AllIn (asg pi) h hc) (hf : newB (pn.map (·.2)) env h = true) (hk : ∀ i, I i → callOkG O ids gs hc (hr i) (rv i) pi pn = true) (hl : ∀ i, I i → LenG gs (hr i) hc)
    (hi : hcOk hc pi = true) (K : ∀ i, I i → EvS P O all rest ((t, ren (asg (pi ++ pn)) (rv i)) :: env) (renH (asg (pi ++ pn)) (hr i) ++ h) Q) : EvS P O all (o :: rest) env h Q := by
  intro a w G r
  unfold wpList
  rw [if_pos (wantedA_ok r hw)]
  refine .inl ?_
  obtain ⟨vs, hrun, hlen, hrep⟩ := run_callA ha C.1 (fun _ _ => rfl) r
  have H : Handed O env h G hc (asg pi) := by
    unfold hcOk at hi
    simp only [Bool.and_eq_true, List.all_eq_true] at hi
    refine ⟨fun id o ho => hin.get id o ho, fun id o id' o' h1 h2 h3 => ?_, fun id o ho => ?_⟩
    · have := hi.1 id (mem_keysH h1).1 id' (mem_keysH h2).1
      rw [Bool.or_eq_true] at this
      rcases this with e | e
      · exact Nat.eq_of_beq_eq_true e
      · exact absurd h3 (beq_false_ne e)
    · have := hi.2 _ (mem_keysH ho).2
      exact (onlyO_spec this).1
  unfold Oper.wp
  rw [hrun]
  show Calls P f vs.toArray w _
  refine (C.atH H r (by rw [hlen, renL_map, List.length_map]) (fun i x v hx hv => hrep i _ v (by rw [renL_map, List.getElem?_map, hx]; rfl) hv)).mono ?_
  rintro e w' ⟨v, x, h'', G', rfl, r', hxr, i, hI, rfl, hsub⟩
  obtain ⟨G2, r2, hx2⟩ := callG_after r (newB_at hf) H (hk i hI) (hl i hI) r' hxr hsub
  have r3 := r2.put (d := o.dst) (by rw [hd]; exact hdk) hx2
  rw [hd] at r3 ⊢
  exact K i hI _ _ _ r3

theorem Es_callExN {ι : Type} {f : FuncId} {args : List AV} {hc : Hp} {hr : ι → Hp} {ids : List Nat} {rv : ι → AV} {I : ι → Prop} {t : Nat} (hr' : ι → Hp) (rv' : ι → AV) (gs : List Nat) (pi pn : List (Nat × Nat)) (C : AC P f args hc ids (fun r h' => ∃ i, I i ∧ r = rv i ∧ SubH (hr i) h')) (ha : callA env o.op = some (f, ren.renL (asg pi) args))
    (hw : wantedA all env o = some true) (hd : o.dst = some t) (hdk : dstOk (some t) O.nt = true) (hin : AllIn (asg pi) h hc) (hf : newB (pn.map (·.2)) env h = true) (hk : ∀ i, I i → callOkG O ids gs hc (hr i) (rv i) pi pn = true) (hl : ∀ i, I i → LenG gs (hr i) hc)
    (hi : hcOk hc pi = true) (e1 : ∀ i, ren (asg (pi ++ pn)) (rv i) = rv' i) (e2 : ∀ i, renH (asg (pi ++ pn)) (hr i) = hr' i) (K : ∀ i, I i → EvS P O all rest ((t, rv' i) :: env) (hr' i ++ h) Q) : EvS P O all (o :: rest) env h Q :=
  Es_callEx gs pi pn C ha hw hd hdk hin hf hk hl hi (fun i hI => by rw [e1, e2]; exact K i hI)

/-! ### a call of yield: a round -/
theorem Ei_yield {t l lid p ia ib ib2 ntO : Nat} {x y : Operand} {ts : Array TypeId} {rec : Loop} {la lb : List Oper} {env0 : Env} (h3 : Hp) (hst : rec.state = .ready) (hpd : rec.pending = none) (hps : rec.params = #[p]) (hasg : rec.assign = .region ia la.toArray false) (hbd : rec.body = .block ib (.region ib2 lb.toArray false)) (hnt : rec.tmps.size = ntO)
    (henv : ∀ a w G, Rel O env h a w G → ∀ s, Rep w (XX O h G) G (lk env0 s) (rec.tmps.getD s undef)) (ho : o.op = .call { callee := .value x, args := #[y], argTypes := ts }) (hd : o.dst = some t) (hdk : dstOk (some t) O.nt = true) (hw : wantedA all env o = some true)
    (hx : evalA env x = .d (.sc (.func (.yield l) #[] #[]))) (hh : hget h lid = some (.raw l (.loop rec))) (hp : p < ntO)
    (round : EvI P (some l) (n - 1) (O.keep O.ids O.G0 ntO) la la ((p, evalA env y) :: env0) h (fun e env' h' => e = .normal ∧ hget h' lid = some (.raw l (.loop rec)) ∧
      ∀ bz, EvI P (some l) (n - 1) (O.keep O.ids O.G0 ntO) lb lb env' ((lid, some (.raw l (.loop bz))) :: h') (fun e _ h'' => e = .normal ∧ hget h'' lid = some (.raw l (.loop bz)) ∧ SubH h3 ((lid, some (.raw l (.loop rec))) :: h''))))
    (K : EvI P none n O all rest ((t, .d (.sc (.bool true))) :: stabE O.ids env) h3 Q) : EvI P none n O all (o :: rest) env h Q := by
  subst hnt
  intro a w G r
  unfold wpListIn
  rw [if_pos (wantedA_ok r hw)]
  refine ⟨fun f _ => trivial, ?_⟩
  have hev : a.eval x = .func (.yield l) #[] #[] := by
    have := evalA_rep r.env x
    rw [hx] at this
    exact this.sc_inv
  obtain ⟨e1, e2⟩ := r.obj lid _ hh
  have hrun : (o.semAt (wideR none).round a.eval).run P w = .ok (.round l rec.fn (rec.tmps.setIfInBounds p (a.eval y)) rec.assign rec.body) w := by
    rw [Oper.semAt_eq _ _ _ (by rw [ho]; intro c h; cases h)]
    have hy := run_yield (P := P) (args := #[a.eval y]) e2 (by rw [hps]; rfl)
    rw [hps] at hy
    simp at hy
    simp [execOp, ho, resolve, hev, Deferred.ofValue, invoke, hy]
  rw [hrun]
  refine ⟨fun h => (by cases h), roundIn_of_wpIn (F := wideR none) trivial ?_⟩
  rw [hasg]
  have rr : Rel (O.keep O.ids O.G0 rec.tmps.size) ((p, evalA env y) :: env0) h { tmps := rec.tmps.setIfInBounds p (a.eval y), defers := [] } w G := by
    refine ⟨by simp [Org.keep], rfl, fun s => ?_, r.obj, r.dist, r.ext, r.own, r.xlt, r.ids⟩
    rw [lk_cons]
    by_cases e : p = s
    · subst e
      rw [if_pos rfl, Array.getD_eq_getD_getElem?, Array.getElem?_setIfInBounds_self_of_lt hp]
      exact evalA_rep r.env y
    · rw [if_neg e, Array.getD_eq_getD_getElem?, Array.getElem?_setIfInBounds_ne e, ← Array.getD_eq_getD_getElem?]
      exact henv a w G r s
  refine wpIn_mono (wpIn_region_lit (round _ w G rr)) ?_
  rintro e a1 w1 ⟨env', h', G1, r1, rfl, g1, hbody⟩
  obtain ⟨_, f2⟩ := r1.obj lid _ g1
  refine ⟨w1.putObj l _, run_beginRound f2 hst, ?_⟩
  have hrb : ∀ {Q : Exit → Act → World → Prop} {W : World}, (Code.block ib (.region ib2 lb.toArray false)).wpIn (wideR (some l)) (n - 1) P Q a1 W → rec.body.wpIn (wideR (some l)) (n - 1) P Q a1 W := fun h => by rw [hbd]; exact h
  refine hrb (wpIn_block (wpIn_mono (wpIn_region_lit (hbody _ _ _ _ (r1.turnRaw (ob' := .loop { rec with state := .busy }) g1))) ?_))
  rintro e a2 w2 ⟨env'', h'', G2, r3, rfl, k1, hfin⟩
  obtain ⟨_, q2⟩ := r3.obj lid _ k1
  have he : ({ ({ rec with state := .busy } : Loop) with state := .ready, pending := none } : Loop) = rec := by
    cases rec
    simp only at hst hpd
    subst hst
    subst hpd
    rfl
  have hrun2 := run_endRound (P := P) none q2
  rw [show (.loop { ({ rec with state := .busy } : Loop) with state := if (none : Option Code).isNone = true then LoopState.ready else LoopState.done, pending := none } : Obj) = .loop rec from congrArg Obj.loop he] at hrun2
  refine ⟨.bool true, _, hrun2, ?_⟩
  have r4 := r3.turnRaw (ob' := .loop rec) k1
  have r5 : Rel (O.keep O.ids O.G0 rec.tmps.size) [] h3 a2 _ G2 := r4.weak (env' := []) (fun _ => .inr rfl) (fun id ob h => hfin.each id ob h)
  have r6 : Rel O (stabE O.ids env) h3 a _ G2 := ⟨r.size, r.dfr, fun s => by rw [lk_stabE]; exact stab_rep (r.env s) (fun id hid => (r5.ids id hid).trans (r.ids id hid).symm), r5.obj, r5.dist, r5.ext, r5.own, r5.xlt, r5.ids⟩
  have r7 := r6.put (d := o.dst) (av := .d (.sc (.bool true))) (v := .bool true) (by rw [hd]; exact hdk) (.d _ _ (.sc _ rfl))
  rw [hd] at r7 ⊢
  exact K _ _ _ r7

/-! ### the statement -/
theorem wp_rangeF {g : Operand} {ps : Array Tmp} {assign body : Code} {Q : Exit → Act → World → Prop} {a : Act} {w : World} {gf : Nat} {lb : Array Value} (hg : a.eval g = .func (.func gf) #[] lb) (eg : Callable P gf)
    (H : ∀ fn, Calls P gf (#[.func (.yield (w.heap.size + 1)) #[] #[]] ++ lb) ((w.alloc (.deferred (some []))).alloc (.loop { state := .ready, pending := none, fn, tmps := a.tmps, params := ps, assign, body, defers := w.heap.size }))
      (fun e w₃ => ∃ v, e = .returned v ∧ ∃ w₄, (Instr.endLoop (w.heap.size + 1)).run P w₃ = .ok none w₄ ∧ Q .normal { a with defers := { target := .collected w.heap.size, args := #[] } :: a.defers } w₄)) :
    (Code.rangeFunc g ps assign body).wp P Q a w := by
  refine (wpIn_wide (n := 0)).1 (wpIn_rangeFunc (F := Fence.wide) (fun fn _ => ?_))
  obtain ⟨w1, hw1⟩ : ∃ w1, (w.alloc (.deferred (some []))).alloc (.loop { state := .ready, pending := none, fn, tmps := a.tmps, params := ps, assign, body, defers := w.heap.size }) = w1 := ⟨_, rfl⟩
  have H1 := H fn
  rw [hw1] at H1
  refine ⟨w.heap.size + 1, [{ target := .collected w.heap.size, args := #[] }], w1, { target := .fn (.func gf) lb, args := #[.func (.yield (w.heap.size + 1)) #[] #[]] }, w1, gf, #[.func (.yield (w.heap.size + 1)) #[] #[]] ++ lb, w1, ?_, ?_, fun _ _ => trivial, ?_, fun h => (by cases h), ?_⟩
  · rw [← hw1]; exact run_enterLoop_outer _ _ _ _ _
  · simp only [resolve, hg]
    simp [Deferred.ofValue]
    rfl
  · have := eg (#[.func (.yield (w.heap.size + 1)) #[] #[]] ++ lb) w1
    simp [invoke, this]
  · refine (callsIn_wide.2 H1).mono ?_
    rintro e w₃ ⟨v, rfl, w₄, h1, h2⟩
    exact ⟨none, w₄, h1, h2⟩
/-! ### raw walks: what holds behind them is told of acts and worlds -/
/-- a slice in a cell begins to grow -/
theorem Rel.openCell {Φ : Act → World → Prop} (e sz i0 j id : Nat) {cs : List AV} (hh : hget h i0 = some (.cells cs)) (hj : cs[j]? = some (.d (.sc (.slice none 0 0)))) (h1 : freshE id env = true) (h2 : freshH id h = true) (hi : O.ids.contains id = false)
    (H : ∀ a w G, Rel O env ((i0, some (.cells (cs.set j (.own id 0)))) :: (id, some (.arr e sz [])) :: h) a w G → Φ a w) : ∀ a w G, Rel O env h a w G → Φ a w := by
  intro a w G r
  have hid : id ∉ O.ids := by simpa using hi
  have hne : i0 ≠ id := (freshH_get h2 i0 _ hh).2
  have r' := r.newG (w' := w) (Ext.refl _ w) (id := id) (mv := .slice none 0 0) (n := 0) (o := .arr e sz []) (freshAt_of h1 h2) hid rfl (fun b hb => by cases hb)
    ⟨G.set_len _ _ _, ⟨_, _, _, G.set_m _ _ _⟩, fun i e hi => by simp at hi, [], by rw [G.set_m]; exact World.ownsRow_nil w 0 e sz, fun i e hi => by simp at hi⟩
  have hh' : hget ((id, some (.arr e sz [])) :: h) i0 = some (.cells cs) := by rw [hget_cons, if_neg (fun e => hne e.symm)]; exact hh
  obtain ⟨b, arr, ty, e1, e2, e3, e4⟩ := r'.obj i0 _ hh'
  generalize hG' : G.set id (.slice none 0 0) 0 = G' at r' e1 e4
  have hGm : G'.m id = .slice none 0 0 := by rw [← hG']; exact G.set_m _ _ _
  have hGl : G'.len id = 0 := by rw [← hG']; exact G.set_len _ _ _
  clear hG' r G
  have hX : ∀ b, XX O ((i0, some (.cells (cs.set j (.own id 0)))) :: (id, some (.arr e sz [])) :: h) G' b → XX O ((id, some (.arr e sz [])) :: h) G' b := fun b hb => Rel.turnX (o' := .cells (cs.set j (.own id 0))) hh' rfl hb
  refine H a w _ ⟨r'.size, r'.dfr, fun t => (r'.env t).ext (Ext.refl (fun _ => False) w) (fun _ _ h => h.elim) (fun b _ hb => hX b hb) (GStep.refl _), fun i o ho => ?_, fun i o k i' o' k' b h1 h2 h3 h4 h5 h6 => ?_, r'.ext, fun b hb => r'.own b ?_, r'.xlt, r'.ids⟩
  · rw [hget_cons] at ho
    by_cases ee : i0 = i
    · subst ee
      rw [if_pos rfl] at ho
      cases ho
      refine ⟨b, arr, ty, e1, e2, by simpa using e3, fun k c v hc hv => ?_⟩
      rw [List.getElem?_set] at hc
      split at hc
      · rename_i ejk
        subst ejk
        split at hc
        · cases hc
          obtain ⟨q1, q2⟩ := e4 j _ v hj hv
          rw [q1.sc_inv]
          exact ⟨.own id 0 _ rfl (by rw [hGl]; exact Nat.le_refl _) ⟨_, _, _, hGm⟩ (fun _ => hGm.symm), rfl⟩
        · cases hc
      · obtain ⟨q1, q2⟩ := e4 k c v hc hv
        exact ⟨q1.ext (Ext.refl (fun _ => False) w) (fun _ _ h => h.elim) (fun b _ hb => hX b hb) (GStep.refl _), q2⟩
    · rw [if_neg ee] at ho
      exact (r'.obj i o ho).mono (fun b _ hb => hX b hb)
  · have hs : ∀ i o, hget ((i0, some (.cells (cs.set j (.own id 0)))) :: (id, some (.arr e sz [])) :: h) i = some o → ∃ o2, hget ((id, some (.arr e sz [])) :: h) i = some o2 ∧ names o2 = names o := by
      intro i o ho
      rw [hget_cons] at ho
      by_cases ee : i0 = i
      · subst ee
        rw [if_pos rfl] at ho
        cases ho
        exact ⟨_, hh', rfl⟩
      · rw [if_neg ee] at ho
        exact ⟨o, ho, rfl⟩
    obtain ⟨o2, g1, g2⟩ := hs i o h1
    obtain ⟨o3, g3, g4⟩ := hs i' o' h3
    exact r'.dist i o2 k i' o3 k' b g1 (by rw [g2]; exact h2) g3 (by rw [g4]; exact h4) h5 h6
  · obtain ⟨i, o, q1, k, hk, q2⟩ := hb
    rw [hget_cons] at q1
    by_cases ee : i0 = i
    · subst ee
      rw [if_pos rfl] at q1
      cases q1
      exact ⟨i0, _, hh', k, hk, q2⟩
    · rw [if_neg ee] at q1
      exact ⟨i, o, q1, k, hk, q2⟩
/-- an own row in a cell is written no more -/

def RW (P : Program) (O : Org) (c : Code) (M : Exit → Act → World → Prop) (env : Env) (h : Hp) : Prop := ∀ a w G, Rel O env h a w G → c.wp P M a w
/-- a mark upon what comes next -/
def RWm (O : Org) (Φ : Act → World → Prop) (ds : List Deferred) (env : Env) (h : Hp) : Prop := ∀ a w G, Rel O env h a w G → Φ { a with defers := ds } w
theorem RWm_noIt {Φ : Act → World → Prop} {ds : List Deferred} {m kt et : Nat} {es : List (Value × AV)} {it : Option (Nat × List Value × Option Value)} (hh : hget h m = some (.map kt et es it)) (K : RWm O Φ ds env ((m, some (.map kt et es none)) :: h)) : RWm O Φ ds env h := fun a w G r => K a w G (r.noIt hh)
theorem RW_seqA {x y : Code} {M : Exit → Act → World → Prop} (H : AW P O x (fun e env h => e = .normal ∧ RW P O y M env h) env h) : RW P O (.seq x y) M env h := by
  intro a w G r
  refine wp_seq (Code.wp_mono (fun e a w he => ?_) (H a w G r))
  obtain ⟨env', h', G', r', rfl, hy⟩ := he
  exact hy a w G' r'
theorem RW_seqR {x y : Code} {M : Exit → Act → World → Prop} (H : RW P O x (Exit.then (y.wp P M) M) env h) : RW P O (.seq x y) M env h := fun a w G r => wp_seq (H a w G r)
theorem AW_keep {c : Code} (ids : List Nat) (hs : (O.ids.all fun i => hasN ids i) = true) (H : ∀ G0 : Ctx, (∀ id ∈ O.ids, G0.m id = O.G0.m id) → AW P (O.keep ids G0 O.nt) c Q env h) : AW P O c Q env h := by
  intro a w G r
  have r1 : Rel (O.keep ids G O.nt) env h a w G := ⟨r.size, r.dfr, r.env, r.obj, r.dist, r.ext, r.own, r.xlt, fun _ _ => rfl⟩
  refine Code.wp_mono (fun e a w he => ?_) (H G r.ids a w G r1)
  obtain ⟨env', h', G', r', hq⟩ := he
  refine ⟨env', h', G', ⟨r'.size, r'.dfr, r'.env, r'.obj, r'.dist, r'.ext, r'.own, r'.xlt, fun id hid => ?_⟩, hq⟩
  rw [List.all_eq_true] at hs
  exact (r'.ids id (hasN_mem.1 (hs id hid))).trans (r.ids id hid)
theorem RW_mono {c : Code} {M M' : Exit → Act → World → Prop} (hm : ∀ e a w, M e a w → M' e a w) (H : RW P O c M env h) : RW P O c M' env h := fun a w G r => Code.wp_mono hm (H a w G r)
theorem RW_block {id : Nat} {c : Code} {M : Exit → Act → World → Prop} (H : RW P O c (Exit.inBlock id M) env h) : RW P O (.block id c) M env h := fun a w G r => wp_block (H a w G r)
theorem RW_openCell {c : Code} {M : Exit → Act → World → Prop} (e sz i0 j id : Nat) {cs : List AV} (hh : hget h i0 = some (.cells cs)) (hj : cs[j]? = some (.d (.sc (.slice none 0 0)))) (h1 : freshE id env = true) (h2 : freshH id h = true) (hi : O.ids.contains id = false)
    (H : RW P O c M env ((i0, some (.cells (cs.set j (.own id 0)))) :: (id, some (.arr e sz [])) :: h)) : RW P O c M env h := Rel.openCell (Φ := fun a w => c.wp P M a w) e sz i0 j id hh hj h1 h2 hi H
/-- The statement 'for x := range f', f a function value of the program; ids: the names that are to keep their places. -/
theorem RW_rangeF {gs p fV ntV : Nat} {assign body cV : Code} {fnV : Func} {caps : List AV} {Φ : Act → World → Prop} (lid did : Nat) (ids : List Nat) (hfn : lk env gs = .fn fV caps) (hf : P.funcs[fV]? = some fnV) (hb : fnV.body = some cV) (hnt : fnV.ntmps = ntV) (hres : fnV.results.toList = []) (hcal : Callable P fV) (hle : caps.length + 1 ≤ ntV)
    (hf1 : freshE did env = true) (hf2 : freshH did h = true) (hf3 : freshE lid env = true) (hf4 : freshH lid h = true) (hne : Nat.beq did lid = false) (hi1 : O.ids.contains did = false) (hi2 : O.ids.contains lid = false) (hs : (O.ids.all fun i => hasN ids i) = true) (hi3 : hasN ids lid = false) (hi4 : hasN ids did = false)
    (H : ∀ (l D : Nat) (fn : FuncId) (tmps : Array Value) (G0 : Ctx), tmps.size = O.nt → (∀ w X G', (∀ id ∈ ids, G'.m id = G0.m id) → ∀ s, Rep w X G' (lk (stabE ids env) s) (tmps.getD s undef)) →
      AW P (O.keep ids G0 ntV) cV (fun e _ h' => (e = .ret ∨ e = .normal) ∧ ∃ rec', hget h' lid = some (.raw l (.loop rec')) ∧ rec'.state ≠ .busy ∧ rec'.pending = none ∧ hget h' did = some (.raw D (.deferred (some []))) ∧
          ∀ a w G, Rel O (stabE ids env) ((lid, some (.raw l (.loop { rec' with state := .exhausted }))) :: h') a w G → Φ { a with defers := [{ target := .collected D, args := #[] }] } w)
        (argEnv 0 (.d (.sc (.func (.yield l) #[] #[])) :: caps)) ((lid, some (.raw l (.loop { state := .ready, pending := none, fn, tmps, params := #[p], assign, body, defers := D }))) :: (did, some (.raw D (.deferred (some [])))) :: h)) :
    RW P O (.rangeFunc (.tmp gs) #[p] assign body) (fun e a w => e = .normal ∧ Φ a w) env h := by
  intro a w G r
  have hg := r.env gs
  rw [hfn] at hg
  generalize hgv : a.tmps.getD gs undef = gv at hg
  cases hg with
  | fn _ _ vs hvs hvc =>
    have hev : a.eval (.tmp gs) = .func (.func fV) #[] vs := hgv
    refine wp_rangeF hev hcal (fun fn => ?_)
    -- the two blocks
    have hid1 : did ∉ O.ids := by simpa using hi1
    have hid2 : lid ∉ O.ids := by simpa using hi2
    have hdl : did ≠ lid := fun e => by rw [e] at hne; simp at hne
    have q1 := r.newRaw (ob := .deferred (some [])) (freshAt_of hf1 hf2) hid1
    have hfl : freshAt lid env ((did, some (.raw w.heap.size (.deferred (some [])))) :: h) := by
      have h0 := freshAt_of hf3 hf4
      refine ⟨h0.1, fun j o hj => ?_, ?_⟩
      · rw [hget_cons] at hj
        split at hj
        · cases hj; rfl
        · exact h0.2.1 j o hj
      · rw [hget_cons, if_neg hdl]; exact h0.2.2
    have q2 := q1.newRaw (ob := .loop { state := .ready, pending := none, fn, tmps := a.tmps, params := #[p], assign, body, defers := w.heap.size }) hfl hid2
    have hsz : (w.alloc (.deferred (some []))).heap.size = w.heap.size + 1 := World.size_alloc _ _
    rw [hsz] at q2
    generalize hG1 : (G.set did (.pointer (some ⟨w.heap.size, 0, none⟩)) 0).set lid (.pointer (some ⟨w.heap.size + 1, 0, none⟩)) 0 = G1 at q2
    have hGm : ∀ id ∈ ids, G1.m id = G.m id := by
      intro id hid
      have e1 : id ≠ lid := fun e => by rw [e] at hid; rw [hasN_mem.2 hid] at hi3; cases hi3
      have e2 : id ≠ did := fun e => by rw [e] at hid; rw [hasN_mem.2 hid] at hi4; cases hi4
      rw [← hG1, Ctx.set_m_ne _ _ _ e1, Ctx.set_m_ne _ _ _ e2]
    have hstab : ∀ w' X G', (∀ id ∈ ids, G'.m id = G1.m id) → ∀ s, Rep w' X G' (lk (stabE ids env) s) (a.tmps.getD s undef) := by
      intro w' X G' hg s
      rw [lk_stabE]
      exact stab_rep (r.env s) (fun id hid => (hg id hid).trans (hGm id hid))
    have HH := H (w.heap.size + 1) w.heap.size fn a.tmps G1 r.size hstab
    refine calls_of_wp hf hb ?_
    have q3 : Rel (O.keep ids G1 ntV) (argEnv 0 (.d (.sc (.func (.yield (w.heap.size + 1)) #[] #[])) :: caps)) ((lid, some (.raw (w.heap.size + 1) (.loop { state := .ready, pending := none, fn, tmps := a.tmps, params := #[p], assign, body, defers := w.heap.size }))) :: (did, some (.raw w.heap.size (.deferred (some [])))) :: h)
        { tmps := (#[.func (.yield (w.heap.size + 1)) #[] #[]] ++ vs) ++ Array.replicate (fnV.ntmps - (#[Value.func (.yield (w.heap.size + 1)) #[] #[]] ++ vs).size) undef, defers := [] } ((w.alloc (.deferred (some []))).alloc (.loop { state := .ready, pending := none, fn, tmps := a.tmps, params := #[p], assign, body, defers := w.heap.size })) G1 := by
      refine ⟨by simp [Org.keep, hnt]; omega, rfl, fun s => ?_, q2.obj, q2.dist, q2.ext, q2.own, q2.xlt, fun _ _ => rfl⟩
      rw [lk_argEnv, if_pos (Nat.zero_le _), Nat.sub_zero]
      cases ha : (AV.d (.sc (.func (.yield (w.heap.size + 1)) #[] #[])) :: caps)[s]? with
      | none => exact .any _
      | some x =>
        have hlt : s < caps.length + 1 := by have := (List.getElem?_eq_some_iff.1 ha).1; simpa using this
        have hs1 : (#[Value.func (.yield (w.heap.size + 1)) #[] #[]] ++ vs).size = caps.length + 1 := by simp [hvs]; omega
        rw [Array.getD_eq_getD_getElem?, Array.getElem?_append_left (by omega)]
        cases s with
        | zero =>
          simp at ha
          subst ha
          have e0 : (#[Value.func (.yield (w.heap.size + 1)) #[] #[]] ++ vs)[0]? = some (.func (.yield (w.heap.size + 1)) #[] #[]) := by
            rw [Array.getElem?_append_left (by simp)]
            simp
          rw [e0, Option.getD_some]
          exact .d _ _ (.sc _ rfl)
        | succ s =>
          simp at ha
          have hv : s < vs.size := by omega
          have e1 : (#[Value.func (.yield (w.heap.size + 1)) #[] #[]] ++ vs)[s + 1]? = some vs[s] := by
            rw [Array.getElem?_append_right (by simp)]
            simp [hv]
          rw [e1, Option.getD_some]
          have h0 := hvc s x vs[s] ha (Array.getElem?_eq_getElem hv)
          have q2env := q2.env gs
          rw [hfn, hgv] at q2env
          cases q2env with
          | fn _ _ vs' hvs' hvc' => exact hvc' s x vs[s] ha (Array.getElem?_eq_getElem hv)
    refine Code.wp_mono (fun e a' w' he => ?_) (HH _ _ _ q3)
    obtain ⟨env', h', G', r', hee, rec', k1, k2, k3, k4, k5⟩ := he
    have fin : a'.defers = [] ∧ ∃ v, (results fnV a'.tmps).run P w' = .ok v w' ∧ ∃ v', Ending.returned v = .returned v' ∧ ∃ w₄, (Instr.endLoop (w.heap.size + 1)).run P w' = .ok none w₄ ∧ (Exit.normal = .normal ∧ Φ { a with defers := { target := .collected w.heap.size, args := #[] } :: a.defers } w₄) := by
      obtain ⟨f1, f2⟩ := r'.obj lid _ k1
      refine ⟨r'.dfr, .tuple #[], ?_, _, rfl, _, by rw [← k3]; exact run_endLoop f2 k2, rfl, ?_⟩
      · rw [results_resM]
        have e0 : fnV.results = #[] := by
          apply Array.toList_inj.1
          rw [hres]
        simp [e0]
      · have r4 := r'.turnRaw (ob' := .loop { rec' with state := .exhausted }) k1
        have r5 : Rel O (stabE ids env) ((lid, some (.raw (w.heap.size + 1) (.loop { rec' with state := .exhausted }))) :: h') a _ G' :=
          ⟨r.size, r.dfr, fun s => hstab _ _ G' r4.ids s, r4.obj, r4.dist, r4.ext, r4.own, r4.xlt, fun id hid => by
            rw [List.all_eq_true] at hs
            have hm := hasN_mem.1 (hs id hid)
            exact ((r4.ids id hm).trans (hGm id hm)).trans (r.ids id hid)⟩
        have := k5 a _ G' r5
        rw [r.dfr]
        exact this
    rcases hee with rfl | rfl
    · exact fin
    · exact fin

/-- the same, as the translator lays it; the round's record told by its name alone -/
theorem RW_rangeB {gs p fV ntV ib : Nat} {assign body cV : Code} {fnV : Func} {caps : List AV} {M : Exit → Act → World → Prop} (lid did : Nat) (ids : List Nat) (hfn : lk env gs = .fn fV caps) (hf : P.funcs[fV]? = some fnV) (hb : fnV.body = some cV) (hnt : fnV.ntmps = ntV) (hres : fnV.results.toList = []) (hname : (fnV.name == "runtime.NumGoroutine") = false) (hle : caps.length + 1 ≤ ntV)
    (hf1 : freshE did env = true) (hf2 : freshH did h = true) (hf3 : freshE lid env = true) (hf4 : freshH lid h = true) (hne : Nat.beq did lid = false) (hi1 : O.ids.contains did = false) (hi2 : O.ids.contains lid = false) (hs : (O.ids.all fun i => hasN ids i) = true) (hi3 : hasN ids lid = false) (hi4 : hasN ids did = false)
    (H : ∀ (l D : Nat) (rec : Loop) (G0 : Ctx), rec.state = .ready → rec.pending = none → rec.params = #[p] → rec.assign = assign → rec.body = body → rec.tmps.size = O.nt → (∀ w X G', (∀ id ∈ ids, G'.m id = G0.m id) → ∀ s, Rep w X G' (lk (stabE ids env) s) (rec.tmps.getD s undef)) →
      AW P (O.keep ids G0 ntV) cV (fun e _ h' => (e = .ret ∨ e = .normal) ∧ hget h' lid = some (.raw l (.loop rec)) ∧ hget h' did = some (.raw D (.deferred (some []))) ∧
          ∀ ex, RWm O (M .normal) [{ target := .collected D, args := #[] }] (stabE ids env) ((lid, some (.raw l (.loop ex))) :: h'))
        (argEnv 0 (.d (.sc (.func (.yield l) #[] #[])) :: caps)) ((lid, some (.raw l (.loop rec))) :: (did, some (.raw D (.deferred (some [])))) :: h)) :
    RW P O (.block ib (.rangeFunc (.tmp gs) #[p] assign body)) M env h :=
  RW_block (RW_mono (fun e a w q => by obtain ⟨rfl, q⟩ := q; exact q) (RW_rangeF (Φ := fun a w => M .normal a w) lid did ids hfn hf hb hnt hres (callable_of hf hb hname) hle hf1 hf2 hf3 hf4 hne hi1 hi2 hs hi3 hi4 (fun l D fn tmps G0 ht hst => by
    refine (H l D { state := .ready, pending := none, fn, tmps, params := #[p], assign, body, defers := D } G0 rfl rfl rfl rfl rfl ht hst).mono (fun e env' h' q => ?_)
    obtain ⟨q1, q2, q3, q4⟩ := q
    exact ⟨q1, _, q2, fun h => (by cases h), rfl, q3, fun a w G r => q4 _ a w G r⟩)))

/-! ### the function's end, a mark taken back -/
/-- what a body that holds such a statement must come to: 'ret', with the mark of the rounds' deferred calls. -/
def postM (O : Org) (t : Nat) (R : AV → Hp → Prop) (e : Exit) (a : Act) (w : World) : Prop :=
  e = .ret ∧ ∃ D did a0 env h G, a = { a0 with defers := [{ target := .collected D, args := #[] }] } ∧ Rel O env h a0 w G ∧ hget h did = some (.raw D (.deferred (some []))) ∧ R (lk env t) ((did, some (.raw D (.deferred none))) :: h)
theorem AC_enterM {f : FuncId} {fn : Func} {c : Code} {args : List AV} {ids : List Nat} {R : AV → Hp → Prop} (hf : P.funcs[f]? = some fn) (hb : fn.body = some c) {nt t : Nat} (hn : fn.ntmps = nt) (hrv : fn.results.toList = [.tmp t]) (hname : (fn.name == "runtime.NumGoroutine") = false) (hle : args.length ≤ nt)
    (H : ∀ w X G, RW P (org w X h G ids nt) c (postM (org w X h G ids nt) t R) (argEnv 0 args) h) : AC P f args h ids R := by
  refine ⟨callable_of hf hb hname, ?_⟩
  intro w X G vs r hl hv
  subst hn
  refine (callsIn_wide (n := 0)).1 (callsIn_of_wp_marks (F := Fence.wide) (n := 0) hf hb trivial ((wpIn_wide (n := 0)).2 ?_))
  have r0 : Rel (org w X h G ids fn.ntmps) (argEnv 0 args) h { tmps := vs.toArray ++ Array.replicate (fn.ntmps - vs.toArray.size) undef, defers := [] } w G := by
    refine ⟨by simp [org]; omega, rfl, fun t => ?_, r.obj, r.dist, r.ext, r.own, r.xlt, r.ids⟩
    rw [lk_argEnv, if_pos (Nat.zero_le _)]
    cases ha : args[t - 0]? with
    | none => exact .any _
    | some x =>
      have ha' : args[t]? = some x := ha
      have hlt : t < vs.length := by rw [hl]; exact (List.getElem?_eq_some_iff.1 ha').1
      have e : (vs.toArray ++ Array.replicate (fn.ntmps - vs.toArray.size) undef).getD t undef = vs[t] := by
        rw [Array.getD_eq_getD_getElem?, Array.getElem?_append_left (by simpa using hlt)]
        simp [hlt]
      rw [e]
      exact hv t x _ ha' (List.getElem?_eq_getElem hlt)
  refine Code.wp_mono (fun e a w' he => ?_) (H w X G _ w G r0)
  obtain ⟨rfl, D, did, a0, env', h', G', rfl, r', hd, hR⟩ := he
  obtain ⟨f1, f2⟩ := r'.obj did _ hd
  have r2 := r'.turnRaw (ob' := .deferred none) hd
  obtain ⟨v, e1, e2⟩ := run_results (P := P) r2 fn [lk env' t] (by rw [hrv]; rfl)
  refine ⟨by simp, .inl ⟨D, _, rfl, run_takeDeferred f2, v, e1, ?_⟩⟩
  exact ⟨v, lk env' t, _, G', rfl, ⟨rfl, rfl, fun t => .any _, r2.obj, r2.dist, r2.ext, r2.own, r2.xlt, r2.ids⟩, e2, hR⟩
/-- the operations behind the statement -/
def EvT (P : Program) (O : Org) (all rest : List Oper) (env : Env) (h : Hp) (ds : List Deferred) (Q : Env → Hp → Prop) : Prop :=
  ∀ a w G, Rel O env h a w G → wpList P all.toArray (fun e a' w' => e = .normal ∧ ∃ a0 env' h' G', a' = { a0 with defers := ds } ∧ Rel O env' h' a0 w' G' ∧ Q env' h') rest { a with defers := ds } w
theorem Et_nil {ds : List Deferred} {Q : Env → Hp → Prop} (H : Q env h) : EvT P O all [] env h ds Q := fun a _ G r => ⟨rfl, a, env, h, G, rfl, r, H⟩
theorem Et_q {t : Nat} {av : AV} {Ts : List Nat} {ds : List Deferred} {Q : Env → Hp → Prop} (hd : o.dst = some t) (hw : wantedA all env o = some true) (hs : LStep P O o env h Ts [] av []) (K : EvT P O all rest ((t, av) :: env) h ds Q) : EvT P O all (o :: rest) env h ds Q := by
  intro a w G r
  unfold wpList
  rw [if_pos (show Region.wanted o (yielded all.toArray a.tmps) = true from wantedA_ok r hw)]
  refine .inl ?_
  have h0 := hs env h (fun _ _ => rfl) (fun _ _ => rfl) (fun _ h => by simp at h) a w G r (fun a' w' => ∃ v G', a' = a.put o.dst v ∧ Rel O (upd env o.dst av) ([] ++ h) (a.put o.dst v) w' G') (fun _ _ _ => False) (fun v w' G' r' => ⟨v, G', rfl, r'⟩)
  unfold Oper.wp at h0 ⊢
  rw [show ({ a with defers := ds } : Act).eval = a.eval from rfl]
  revert h0
  generalize (execOp a.eval o).run P w = res
  have step : ∀ v w', (∃ v' G', a.put o.dst v = a.put o.dst v' ∧ Rel O (upd env o.dst av) ([] ++ h) (a.put o.dst v') w' G') → wpList P all.toArray (fun e a' w' => e = .normal ∧ ∃ a0 env' h' G', a' = { a0 with defers := ds } ∧ Rel O env' h' a0 w' G' ∧ Q env' h') rest (({ a with defers := ds } : Act).put o.dst v) w' := by
    rintro v w' ⟨v', G', e, r'⟩
    rw [← e] at r'
    have := K (a.put o.dst v) w' G' (by rw [hd] at r' ⊢; exact r')
    have e2 : (({ a with defers := ds } : Act).put o.dst v) = { a.put o.dst v with defers := ds } := by rw [hd]; rfl
    rw [e2]
    exact this
  intro h0
  cases res with
  | ok nx w' =>
    cases nx with
    | value v => exact step v w' h0
    | skip => exact step undef w' h0
    | defer d =>
      exfalso
      obtain ⟨v, G', e, _⟩ := h0
      have := congrArg Act.defers e
      rw [hd] at this
      have h3 : d :: a.defers = a.defers := this
      have := congrArg List.length h3
      simp at this
    | enter f args =>
      refine Calls.mono h0 (fun e w'' he => ?_)
      cases e with
      | returned v => exact step v w'' he
      | panicked c => exact he.elim
      | outgrown => obtain ⟨_, _, hf⟩ := he; exact hf.elim
    | row row args => exact Rows.mono h0 (fun v w'' he => step v w'' he)
    | _ => exact h0.elim
  | halt hl w' =>
    cases hl with
    | panic v => exact h0.elim
    | _ => exact h0.elim
/-- behind the statement: a region, and the end -/
theorem tail_ret {id t : Nat} {l : List Oper} {R : AV → Hp → Prop} {D did : Nat} (H : EvT P O l l env h [{ target := .collected D, args := #[] }] (fun env' h' => hget h' did = some (.raw D (.deferred (some []))) ∧ R (lk env' t) ((did, some (.raw D (.deferred none))) :: h'))) :
    RWm O (fun a w => (Code.seq (.region id l.toArray false) .ret).wp P (postM O t R) a w) [{ target := .collected D, args := #[] }] env h := by
  intro a w G r
  refine wp_seq (Code.wp_mono (fun e a w he => ?_) (wp_region_lit (H a w G r)))
  obtain ⟨rfl, a0, env', h', G', rfl, r', hd, hR⟩ := he
  exact wp_ret ⟨rfl, D, did, a0, env', h', G', rfl, r', hd, hR⟩
end
end Go.SL
