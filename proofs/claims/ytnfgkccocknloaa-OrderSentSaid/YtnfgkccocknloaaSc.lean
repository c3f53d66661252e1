/- The layer 'SL': a call that is handed objects, as an operation. -/
import Derived.Test.YtnfgkccocknloaaSb
namespace Go.SL
open Go.RowKit

def asg : List (Nat × Nat) → Nat → Nat
  | [], i => i
  | (c, d) :: r, i => bif Nat.beq c i then d else asg r i
/-- the function and its arguments -/
def callA (env : Env) : Op → Option (FuncId × List AV)
  | .call c => match c.callee with
    | .value x => match evalA env x with
      | .fn f caps => some (f, c.args.toList.map (evalA env) ++ caps)
      | _ => none
    | _ => none
  | _ => none

def onlyN (L : List Nat) : AV → Bool
  | .any | .d _ | .ro _ => true
  | .agg cs | .tup cs | .roa cs | .fn _ cs => onlyL L cs
  | .sla _ es => onlyLL L es
  | .ptr j _ | .own j _ | .eptr j _ _ _ _ | .mp j | .it j => hasN L j
where
  onlyL (L : List Nat) : List AV → Bool
    | [] => true
    | c :: r => onlyN L c && onlyL L r
  onlyLL (L : List Nat) : List (List AV) → Bool
    | [] => true
    | c :: r => onlyL L c && onlyLL L r
theorem only_fresh {L : List Nat} {j : Nat} (hj : j ∉ L) : ∀ {x : AV}, onlyN L x = true → fresh j x = true
  | .any, _ | .d _, _ | .ro _, _ => rfl
  | .agg cs, h => only_freshL cs h
  | .tup cs, h => only_freshL cs h
  | .roa cs, h => only_freshL cs h
  | .fn _ cs, h => only_freshL cs h
  | .sla _ es, h => only_freshLL es h
  | .ptr i _, h | .own i _, h | .eptr i _ _ _ _, h | .mp i, h | .it i, h => by
    show (!(Nat.beq j i)) = true
    cases hb : Nat.beq j i
    · rfl
    · rw [Nat.eq_of_beq_eq_true hb] at hj
      exact absurd (hasN_mem.1 h) hj
where
  only_freshL : ∀ (cs : List AV), onlyN.onlyL L cs = true → fresh.freshL j cs = true
    | [], _ => rfl
    | c :: r, h => by
      unfold onlyN.onlyL at h
      simp only [Bool.and_eq_true] at h
      show (fresh j c && fresh.freshL j r) = true
      rw [only_fresh hj h.1, only_freshL r h.2]; rfl
  only_freshLL : ∀ (cs : List (List AV)), onlyN.onlyLL L cs = true → fresh.freshLL j cs = true
    | [], _ => rfl
    | c :: r, h => by
      unfold onlyN.onlyLL at h
      simp only [Bool.and_eq_true] at h
      show (fresh.freshL j c && fresh.freshLL j r) = true
      rw [only_fresh.only_freshL c h.1, only_freshLL r h.2]; rfl
theorem only_in {L : List Nat} {j : Nat} {x : AV} (h : onlyN L x = true) (hf : fresh j x = false) : j ∈ L := by
  by_cases hj : j ∈ L
  · exact hj
  · rw [only_fresh hj h] at hf; cases hf
def onlyO (L : List Nat) : AObj → Bool
  | .cells cs => onlyN.onlyL L cs
  | .arr _ _ _ => true
  | .map _ _ _ it => match it with | some _ => false | none => true
theorem onlyO_spec {L : List Nat} {o : AObj} (h : onlyO L o = true) : names o = [] ∧ ∀ j, freshO j o = false → j ∈ L := by
  cases o with
  | cells cs =>
    refine ⟨rfl, fun j hf => ?_⟩
    by_cases hj : j ∈ L
    · exact hj
    · have := only_fresh.only_freshL (L := L) (j := j) hj cs h
      have hf : fresh.freshL j cs = false := hf
      rw [this] at hf; cases hf
  | arr => exact ⟨rfl, fun j hf => by cases hf⟩
  | map kt et es it =>
    cases it with
    | none => exact ⟨rfl, fun j hf => by cases hf⟩
    | some p => cases h

def AllIn (f : Nat → Nat) (h : Hp) : Hp → Prop
  | [] => True
  | (id, v) :: r => (match v with | some o => hget h (f id) = some (renO f o) | none => True) ∧ AllIn f h r
theorem AllIn.get {f : Nat → Nat} {h : Hp} : ∀ {hc : Hp}, AllIn f h hc → ∀ id o, hget hc id = some o → hget h (f id) = some (renO f o)
  | [], _, _, _, ho => by cases ho
  | (t, v) :: r, H, id, o, ho => by
    rw [hget_cons] at ho
    by_cases e : t = id
    · subst e
      rw [if_pos rfl] at ho
      subst ho
      exact H.1
    · rw [if_neg e] at ho
      exact AllIn.get H.2 id o ho
def lenO (o : AObj) : Option AObj → Prop
  | some o' => match o with
    | .arr _ _ a => match o' with
      | .arr _ _ b => a.length = b.length
      | _ => False
    | _ => True
  | none => False
def LenIn (hr : Hp) : Hp → Prop
  | [] => True
  | (id, v) :: r => (match v with | some o => lenO o (hget hr id) | none => True) ∧ LenIn hr r
theorem LenIn.get {hr : Hp} : ∀ {hc : Hp}, LenIn hr hc → ∀ id o, hget hc id = some o → ∃ o', hget hr id = some o' ∧ sameLen o o'
  | [], _, _, _, ho => by cases ho
  | (t, v) :: r, H, id, o, ho => by
    rw [hget_cons] at ho
    by_cases e : t = id
    · subst e
      rw [if_pos rfl] at ho
      subst ho
      have := H.1
      simp only at this
      cases hg : hget hr t with
      | none => rw [hg] at this; exact this.elim
      | some o' =>
        rw [hg] at this
        refine ⟨o', rfl, ?_⟩
        cases o <;> cases o' <;> first | trivial | exact this
    · rw [if_neg e] at ho
      exact LenIn.get H.2 id o ho
def renH (f : Nat → Nat) : Hp → Hp
  | [] => []
  | (id, v) :: r => (f id, match v with | some o => some (renO f o) | none => none) :: renH f r
theorem keysH_renH (f : Nat → Nat) : ∀ h, keysH (renH f h) = (keysH h).map f
  | [] => rfl
  | (id, v) :: r => by show f id :: keysH (renH f r) = _; rw [keysH_renH f r]; rfl
theorem renH_get {f : Nat → Nat} : ∀ {hr : Hp} {i : Nat} {o : AObj}, hget (renH f hr) i = some o → ∃ id o', (id, some o') ∈ hr ∧ i = f id ∧ o = renO f o'
  | [], _, _, h => by cases h
  | (t, v) :: r, i, o, h => by
    unfold renH at h
    rw [hget_cons] at h
    by_cases e : f t = i
    · rw [if_pos e] at h
      cases v with
      | none => cases h
      | some o' => cases h; exact ⟨t, o', by simp, e.symm, rfl⟩
    · rw [if_neg e] at h
      obtain ⟨id, o', h1, h2⟩ := renH_get h
      exact ⟨id, o', by simp [h1], h2⟩
theorem SubH.mem : ∀ {H h : Hp}, SubH H h → ∀ {id : Nat} {o : AObj}, (id, some o) ∈ H → hget h id = some o
  | (t, v) :: r, h, hs, id, o, hm => by
    rcases List.mem_cons.1 hm with e | e
    · cases e; exact hs.1
    · exact hs.2.mem e
theorem mem_keysH {h : Hp} {id : Nat} {o : AObj} (hg : hget h id = some o) : id ∈ keysH h ∧ (id, some o) ∈ h := by
  induction h with
  | nil => cases hg
  | cons p r ih =>
    obtain ⟨t, v⟩ := p
    rw [hget_cons] at hg
    by_cases e : t = id
    · subst e
      rw [if_pos rfl] at hg
      subst hg
      exact ⟨by simp [keysH], by simp⟩
    · rw [if_neg e] at hg
      obtain ⟨h1, h2⟩ := ih hg
      refine ⟨?_, by simp [h2]⟩
      show id ∈ t :: keysH r
      simp [h1]

/-- what is to be looked up of a call: 'pi' tells the caller's names of what is handed in, 'pn' those of what is new. -/
def callOk (O : Org) (ids : List Nat) (hc hr : Hp) (rv : AV) (pi pn : List (Nat × Nat)) : Bool :=
  ((keysH hc).all fun i => (keysH hc).all fun j => Nat.beq i j || !Nat.beq (asg pi i) (asg pi j)) &&
  ((keysH hc).all fun i => hasN ids i && hasN (keysH hr) i && Nat.beq (asg (pi ++ pn) i) (asg pi i) && !hasN (pn.map (·.1)) i) &&
  (pn.all fun p => !hasN O.ids p.2 && hasN (keysH hr) p.1 && Nat.beq (asg (pi ++ pn) p.1) p.2) &&
  (pn.all fun p => pn.all fun q => Nat.beq p.1 q.1 || !Nat.beq p.2 q.2) &&
  (hc.all fun p => match p.2 with | some o => onlyO (keysH hc) o | none => true) &&
  (hr.all fun p => match p.2 with | some o => hasN (keysH hc ++ pn.map (·.1)) p.1 && onlyO (keysH hc ++ pn.map (·.1)) o | none => false) &&
  (hc.all fun p => match p.2 with | some _ => true | none => false) && onlyN (keysH hc ++ pn.map (·.1)) rv

open Classical in
noncomputable def afterCtx (G G' : Ctx) (pn : List (Nat × Nat)) : Ctx :=
  ⟨fun i => match pn.find? (fun p => p.2 == i) with | some p => G'.m p.1 | none => G.m i, fun i => match pn.find? (fun p => p.2 == i) with | some p => G'.len p.1 | none => G.len i⟩

theorem beq_false_ne {i j : Nat} (h : (!Nat.beq i j) = true) : i ≠ j := by intro e; subst e; simp at h
theorem hget_of_key : ∀ {h : Hp} {id : Nat}, (∀ p ∈ h, ∃ o, p.2 = some o) → id ∈ keysH h → ∃ o, hget h id = some o
  | [], _, _, hm => by cases hm
  | (t, v) :: r, id, hs, hm => by
    rw [hget_cons]
    by_cases e : t = id
    · rw [if_pos e]
      obtain ⟨o, ho⟩ := hs (t, v) (by simp)
      exact ⟨o, ho⟩
    · rw [if_neg e]
      refine hget_of_key (fun p hp => hs p (by simp [hp])) ?_
      rcases List.mem_cons.1 hm with e' | e'
      · exact absurd e'.symm e
      · exact e'

section
variable {P : Program} {O : Org} {T : Tab P} {Q : Exit → Env → Hp → Prop} {env : Env} {h : Hp} {all rest : List Oper} {o : Oper} {rs : List Rc}

theorem run_callA {f : FuncId} {as : List AV} (hc : callA env o.op = some (f, as)) (hf : Callable P f) {env' : Env} {h' : Hp} (he : ∀ x ∈ o.op.operands.toList, evalA env' x = evalA env x) {a : Act} {w : World} {G : Ctx} (r : Rel O env' h' a w G) :
    ∃ vs : List Value, (execOp a.eval o).run P w = .ok (.enter f vs.toArray) w ∧ vs.length = as.length ∧ ∀ (i : Nat) (x : AV) (v : Value), as[i]? = some x → vs[i]? = some v → Rep w (XX O h' G) G x v := by
  unfold callA at hc
  cases ho : o.op with
  | call c =>
    rw [ho] at hc he
    obtain ⟨callee, args, argTypes⟩ := c
    cases callee with
    | value x =>
      simp only at hc
      have hx := evalA_rep r.env x
      rw [he x (by simp [Op.operands, Call.operands])] at hx
      cases hv : evalA env x with
      | fn g caps =>
        rw [hv] at hc hx
        simp only [Option.some.injEq, Prod.mk.injEq] at hc
        obtain ⟨rfl, rfl⟩ := hc
        generalize hxe : a.eval x = xv at hx
        cases hx with
        | fn _ _ cvs hs hrep =>
          refine ⟨(args.map a.eval ++ cvs).toList, ?_, by simp [hs], fun i y v hy hvv => ?_⟩
          · have := hf (args.map a.eval ++ cvs)
            simp [execOp, ho, resolve, hxe, Deferred.ofValue, invoke, this]
          · rw [Array.toList_append] at hvv
            rcases Nat.lt_or_ge i args.size with hlt | hge
            · rw [List.getElem?_append_left (by simpa using hlt)] at hy hvv
              simp only [List.getElem?_map, Option.map_eq_some_iff] at hy
              obtain ⟨z, hz, rfl⟩ := hy
              simp only [Array.toList_map, List.getElem?_map, hz, Option.map_some, Option.some.injEq] at hvv
              subst hvv
              rw [← he z (by have := List.mem_of_getElem? hz; simp [Op.operands, Call.operands, Array.mem_toList_iff.1 this])]
              exact evalA_rep r.env z
            · rw [List.getElem?_append_right (by simpa using hge)] at hy hvv
              simp only [List.length_map, Array.length_toList, Array.size_map] at hy hvv
              exact hrep _ y v hy (by rw [← Array.getElem?_toList]; exact hvv)
      | _ => rw [hv] at hc; cases hc
    | _ => cases hc
  | _ => rw [ho] at hc; cases hc

/-- A call that is handed objects, and may hand back new ones. -/
theorem LStep_callH {f : FuncId} {args : List AV} {hc hr : Hp} {ids : List Nat} {rv : AV} (pi pn : List (Nat × Nat)) (C : AC P f args hc ids (fun r h' => r = rv ∧ SubH hr h')) (ha : callA env o.op = some (f, ren.renL (asg pi) args)) (hd : dstOk o.dst O.nt = true)
    (hin : AllIn (asg pi) h hc) (hk : callOk O ids hc hr rv pi pn = true) (hl : LenIn hr hc) :
    LStep P O o env h ((keysH hc).map (asg pi)) (pn.map (·.2)) (ren (asg (pi ++ pn)) rv) (renH (asg (pi ++ pn)) hr) := by
  intro env' h' he hT hN a w G r K Q hK
  obtain ⟨vs, hrun, hlen, hrep⟩ := run_callA ha C.1 he r
  unfold callOk at hk
  simp only [Bool.and_eq_true, List.all_eq_true] at hk
  obtain ⟨⟨⟨⟨⟨⟨⟨k1, k2⟩, k3⟩, k4⟩, k5⟩, k6⟩, k7⟩, k8⟩ := hk
  have hsome : ∀ p ∈ hc, ∃ o, p.2 = some o := by
    intro p hp
    have := k7 p hp
    cases hp2 : p.2 with
    | none => rw [hp2] at this; cases this
    | some o => exact ⟨o, rfl⟩
  have keyOf : ∀ id, id ∈ keysH hc → ∃ o, hget hc id = some o := fun id hid => hget_of_key hsome hid
  have H : Handed O env' h' G hc (asg pi) := by
    refine ⟨fun id o ho => ?_, fun id o id' o' h1 h2 h3 => ?_, fun id o ho => ?_⟩
    · rw [hT _ (List.mem_map.2 ⟨id, (mem_keysH ho).1, rfl⟩)]
      exact hin.get id o ho
    · have := k1 id (mem_keysH h1).1 id' (mem_keysH h2).1
      rw [Bool.or_eq_true] at this
      rcases this with e | e
      · exact Nat.eq_of_beq_eq_true e
      · exact absurd h3 (beq_false_ne e)
    · have := k5 _ (mem_keysH ho).2
      exact (onlyO_spec this).1
  unfold Oper.wp
  rw [hrun]
  show Calls P f vs.toArray w _
  refine (C.atH H r (by rw [hlen, renL_map, List.length_map]) (fun i x v hx hv => hrep i _ v (by rw [renL_map, List.getElem?_map, hx]; rfl) hv)).mono ?_
  rintro e w' ⟨v, x, h'', G', rfl, r', hxr, rfl, hsub⟩
  have newKey : ∀ c, (∃ d, (c, d) ∈ pn) → c ∉ keysH hc := by
    rintro c ⟨d, hcd⟩ hm
    have := (k2 c hm).2
    simp only [Bool.not_eq_true'] at this
    have h2 : hasN (pn.map (·.1)) c = true := hasN_mem.2 (List.mem_map.2 ⟨(c, d), hcd, rfl⟩)
    rw [h2] at this; cases this
  have outKey : ∀ c, c ∈ keysH hr → ∃ o', (c, some o') ∈ hr := by
    intro c hc'
    unfold keysH at hc'
    obtain ⟨⟨c', v⟩, h1, rfl⟩ := List.mem_map.1 hc'
    have := k6 _ h1
    cases v with
    | none => cases this
    | some o' => exact ⟨o', h1⟩
  have cls : ∀ j, j ∈ keysH hc ++ pn.map (·.1) → (∃ o1, hget hc j = some o1) ∨ ∃ d, (j, d) ∈ pn := by
    intro j hj
    rcases List.mem_append.1 hj with hj | hj
    · exact .inl (keyOf j hj)
    · obtain ⟨⟨c, d⟩, h1, rfl⟩ := List.mem_map.1 hj
      exact .inr ⟨d, h1⟩
  have τn : ∀ c d, (c, d) ∈ pn → asg (pi ++ pn) c = d := fun c d hcd => Nat.eq_of_beq_eq_true (k3 _ hcd).2
  have fnd : ∀ c d, (c, d) ∈ pn → ∃ p, pn.find? (fun p => p.2 == d) = some p ∧ p.1 = c := by
    intro c d hcd
    cases hf : pn.find? (fun p => p.2 == d) with
    | none =>
      rw [List.find?_eq_none] at hf
      exact absurd (hf _ hcd) (by simp)
    | some p =>
      have h1 := List.mem_of_find?_eq_some hf
      have h2 : p.2 = d := by simpa using List.find?_some hf
      have := k4 p h1 (c, d) hcd
      rw [Bool.or_eq_true] at this
      rcases this with e | e
      · exact ⟨p, rfl, Nat.eq_of_beq_eq_true e⟩
      · exact absurd h2 (beq_false_ne e)
  have L : Left O env' h' G (afterCtx G G' pn) hc h'' (renH (asg (pi ++ pn)) hr ++ h') G' ids (asg pi) (asg (pi ++ pn)) (fun c => ∃ d, (c, d) ∈ pn) := by
    refine ⟨fun id o ho => ?_, fun id o ho => ?_, fun id o ho => ?_, fun c hc' => ?_, fun c c' h1 h2 e => ?_, fun c hc' => ?_, fun i hi => ?_, fun i o1 ho => ?_⟩
    · exact hasN_mem.1 (k2 id (mem_keysH ho).1).1.1.1
    · exact Nat.eq_of_beq_eq_true (k2 id (mem_keysH ho).1).1.2
    · obtain ⟨o', h1, h2⟩ := hl.get id o ho
      exact ⟨o', hsub.each id o' h1, h2⟩
    · obtain ⟨d, hcd⟩ := hc'
      have h3 := k3 _ hcd
      rw [τn c d hcd]
      refine ⟨hN d (List.mem_map.2 ⟨(c, d), hcd, rfl⟩), fun hm => ?_, ?_, ?_⟩
      · have := h3.1.1
        simp only [Bool.not_eq_true'] at this
        rw [hasN_mem.2 hm] at this; cases this
      · cases hg : hget hc c with
        | none => rfl
        | some o => exact absurd (mem_keysH hg).1 (newKey c ⟨d, hcd⟩)
      · obtain ⟨o', ho'⟩ := outKey c (hasN_mem.1 h3.1.2)
        exact ⟨o', hsub.mem ho'⟩
    · obtain ⟨d, hcd⟩ := h1
      obtain ⟨d', hcd'⟩ := h2
      rw [τn c d hcd, τn c' d' hcd'] at e
      have := k4 _ hcd _ hcd'
      rw [Bool.or_eq_true] at this
      rcases this with e' | e'
      · exact Nat.eq_of_beq_eq_true e'
      · exact absurd e (beq_false_ne e')
    · obtain ⟨d, hcd⟩ := hc'
      rw [τn c d hcd]
      obtain ⟨p, hp, rfl⟩ := fnd c d hcd
      unfold afterCtx
      simp only [hp, and_self]
    · have : pn.find? (fun p => p.2 == i) = none := by
        rw [List.find?_eq_none]
        intro p hp
        have := hi p.1 ⟨p.2, hp⟩
        rw [τn p.1 p.2 hp] at this
        simpa using this
      unfold afterCtx
      simp only [this, and_self]
    · rw [hget_append] at ho
      by_cases hm : i ∈ keysH (renH (asg (pi ++ pn)) hr)
      · rw [if_pos hm] at ho
        obtain ⟨id, o', h1, h2, h3⟩ := renH_get ho
        have h6 := k6 _ h1
        simp only [Bool.and_eq_true] at h6
        have h7 := onlyO_spec h6.2
        exact .inl ⟨id, o', cls id (hasN_mem.1 h6.1), hsub.mem h1, h2, h3, h7.1, fun j hj => cls j (h7.2 j hj)⟩
      · rw [if_neg hm] at ho
        refine .inr ⟨ho, fun id o2 h1 e => hm ?_⟩
        rw [keysH_renH]
        have h2 := k2 id (mem_keysH h1).1
        exact List.mem_map.2 ⟨id, hasN_mem.1 h2.1.1.2, (Nat.eq_of_beq_eq_true h2.1.2).trans e⟩
  exact hK v w' _ ((L.rel H r r').put hd (L.res H r r' (fun j hj => cls j (only_in k8 hj)) hxr))
end
end Go.SL
