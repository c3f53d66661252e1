/- The layer 'SL': a loop over a function: yield, rounds. -/
import Derived.Test.YtofdnkgieigncaaGreatSx
import Derived.RangeFuncLeaves
import Derived.RangeFuncSeq
namespace Go.SL
open Go.RowKit Go.MapKept

/-! ### the fenced walk, of the wide fence, outside and inside of a round -/
section
variable {P : Program} {O : Org} {T : Tab P} {Q : Exit → Env → Hp → Prop} {env : Env} {h : Hp} {all rest : List Oper} {o : Oper} {r : Option Nat} {n : Nat}
/-! ### objects that are told whole -/
/-! ### the origin moved: names that keep their places from here on -/
def Org.keep (O : Org) (ids : List Nat) (G : Ctx) (nt : Nat) : Org := ⟨O.w0, O.X, O.own0, ids, G, nt⟩
/-! ### what a call leaves, told apart from the call -/
/-- The caller's state behind a call that was handed objects. -/
theorem callG_after {hc hr h'' : Hp} {ids gs : List Nat} {rv : AV} {pi pn : List (Nat × Nat)} {a : Act} {w w' : World} {G G' : Ctx} {v : Value} {env' : Env} {h' : Hp} (r : Rel O env' h' a w G) (hN : ∀ id ∈ pn.map (·.2), freshAt id env' h')
    (H : Handed O env' h' G hc (asg pi)) (hk : callOkG O ids gs hc hr rv pi pn = true) (hl : LenG gs hr hc) (r' : Rel (org w (callX O h' G hc (asg pi)) hc (G.via (asg pi)) ids 0) [] h'' noAct w' G')
    (hxr : Rep w' (XX (org w (callX O h' G hc (asg pi)) hc (G.via (asg pi)) ids 0) h'' G') G' rv v) (hsub : SubH hr h'') :
    ∃ G2, Rel O env' (renH (asg (pi ++ pn)) hr ++ h') a w' G2 ∧ Rep w' (XX O (renH (asg (pi ++ pn)) hr ++ h') G2) G2 (ren (asg (pi ++ pn)) rv) v := by
  unfold callOkG at hk
  simp only [Bool.and_eq_true, List.all_eq_true] at hk
  obtain ⟨⟨⟨⟨⟨⟨⟨⟨k1, k2⟩, k3⟩, k4⟩, k5⟩, k6⟩, k7⟩, k8⟩, k9⟩ := hk
  have hsome : ∀ p ∈ hc, ∃ o, p.2 = some o := by
    intro p hp
    have := k7 p hp
    cases hp2 : p.2 with
    | none => rw [hp2] at this; cases this
    | some o => exact ⟨o, rfl⟩
  have keyOf : ∀ id, id ∈ keysH hc → ∃ o, hget hc id = some o := fun id hid => hget_of_key hsome hid
  have newKey : ∀ c, (∃ d, (c, d) ∈ pn) → c ∉ keysH hc := by
    rintro c ⟨d, hcd⟩ hm
    have := (k2 c hm).2
    simp only [Bool.not_eq_true'] at this
    have h2 : hasN (pn.map (·.1)) c = true := hasN_mem.2 (List.mem_map.2 ⟨(c, d), hcd, rfl⟩)
    rw [h2] at this; cases this
  have outKey : ∀ c, c ∈ keysH hr → ∃ o', (c, some o') ∈ hr := by
    intro c hc'
    unfold keysH at hc'
    obtain ⟨⟨c', v⟩, h1, rfl⟩ := List.mem_map.1 hc'
    have := k6 _ h1
    cases v with
    | none => cases this
    | some o' => exact ⟨o', h1⟩
  have cls : ∀ j, j ∈ keysH hc ++ pn.map (·.1) → (∃ o1, hget hc j = some o1) ∨ ∃ d, (j, d) ∈ pn := by
    intro j hj
    rcases List.mem_append.1 hj with hj | hj
    · exact .inl (keyOf j hj)
    · obtain ⟨⟨c, d⟩, h1, rfl⟩ := List.mem_map.1 hj
      exact .inr ⟨d, h1⟩
  have τn : ∀ c d, (c, d) ∈ pn → asg (pi ++ pn) c = d := fun c d hcd => Nat.eq_of_beq_eq_true (k3 _ hcd).2
  have fnd : ∀ c d, (c, d) ∈ pn → ∃ p, pn.find? (fun p => p.2 == d) = some p ∧ p.1 = c := by
    intro c d hcd
    cases hf : pn.find? (fun p => p.2 == d) with
    | none =>
      rw [List.find?_eq_none] at hf
      exact absurd (hf _ hcd) (by simp)
    | some p =>
      have h1 := List.mem_of_find?_eq_some hf
      have h2 : p.2 = d := by simpa using List.find?_some hf
      have := k4 p h1 (c, d) hcd
      rw [Bool.or_eq_true] at this
      rcases this with e | e
      · exact ⟨p, rfl, Nat.eq_of_beq_eq_true e⟩
      · exact absurd h2 (beq_false_ne e)
  have gsK : ∀ g, g ∈ gs → ∃ o, hget hc g = some o := fun g hg => keyOf g (hasN_mem.1 (by have := (k9 g hg).1; exact this))
  have pnNot : ∀ g o, hget hc g = some o → pn.find? (fun p => p.2 == asg pi g) = none := by
    intro g o hg
    rw [List.find?_eq_none]
    intro p hp hpe
    have hpe' : p.2 = asg pi g := by simpa using hpe
    have hf := (hN p.2 (List.mem_map.2 ⟨p, hp, rfl⟩)).2.2
    rw [hpe', H.hin g o hg] at hf
    cases hf
  generalize hpg : pn ++ gs.map (fun g => (g, asg pi g)) = pg
  have L : Left O env' h' G (afterCtx G G' pg) hc h'' (renH (asg (pi ++ pn)) hr ++ h') G' ids (asg pi) (asg (pi ++ pn)) (fun c => ∃ d, (c, d) ∈ pn) (fun g => g ∈ gs) := by
    refine ⟨fun id o ho => ?_, fun id o ho => ?_, fun c hc' => ?_, fun c c' h1 h2 e => ?_, fun c hc' => ?_, fun i hi hi2 => ?_, fun c o ho hg => ?_, fun c o ho hg hm => ?_, fun i o1 ho => ?_⟩
    · exact Nat.eq_of_beq_eq_true (k2 id (mem_keysH ho).1).1.2
    · obtain ⟨o', h1, h2, h3⟩ := hl.get id o ho
      refine ⟨o', hsub.each id o' h1, ?_, fun hg => h3 (hasN_mem.2 hg)⟩
      cases hb : hasN gs id with
      | true => exact .inr ⟨hasN_mem.1 hb, h3 hb⟩
      | false =>
        have := (k2 id (mem_keysH ho).1).1.1.1
        rw [hb, Bool.or_false] at this
        exact .inl ⟨hasN_mem.1 this, h2 hb⟩
    · obtain ⟨d, hcd⟩ := hc'
      have h3 := k3 _ hcd
      rw [τn c d hcd]
      refine ⟨hN d (List.mem_map.2 ⟨(c, d), hcd, rfl⟩), fun hm => ?_, ?_, ?_⟩
      · have := h3.1.1
        simp only [Bool.not_eq_true'] at this
        rw [hasN_mem.2 hm] at this; cases this
      · cases hg : hget hc c with
        | none => rfl
        | some o => exact absurd (mem_keysH hg).1 (newKey c ⟨d, hcd⟩)
      · obtain ⟨o', ho'⟩ := outKey c (hasN_mem.1 h3.1.2)
        exact ⟨o', hsub.mem ho'⟩
    · obtain ⟨d, hcd⟩ := h1
      obtain ⟨d', hcd'⟩ := h2
      rw [τn c d hcd, τn c' d' hcd'] at e
      have := k4 _ hcd _ hcd'
      rw [Bool.or_eq_true] at this
      rcases this with e' | e'
      · exact Nat.eq_of_beq_eq_true e'
      · exact absurd e (beq_false_ne e')
    · obtain ⟨d, hcd⟩ := hc'
      rw [τn c d hcd]
      obtain ⟨p, hp, rfl⟩ := fnd c d hcd
      have hp' : pg.find? (fun p => p.2 == d) = some p := by rw [← hpg, List.find?_append, hp]; rfl
      unfold afterCtx
      simp only [hp', and_self]
    · have : pg.find? (fun p => p.2 == i) = none := by
        rw [List.find?_eq_none, ← hpg]
        intro p hp
        rcases List.mem_append.1 hp with hp | hp
        · have := hi p.1 ⟨p.2, hp⟩
          rw [τn p.1 p.2 hp] at this
          simpa using this
        · obtain ⟨g, hg, rfl⟩ := List.mem_map.1 hp
          obtain ⟨o, ho⟩ := gsK g hg
          simpa using hi2 g o ho hg
      unfold afterCtx
      simp only [this, and_self]
    · have hp' : ∃ p, pg.find? (fun p => p.2 == asg pi c) = some p ∧ p.1 = c := by
        rw [← hpg, List.find?_append, pnNot c o ho, Option.none_or]
        cases hf : (gs.map (fun g => (g, asg pi g))).find? (fun p => p.2 == asg pi c) with
        | none =>
          rw [List.find?_eq_none] at hf
          exact absurd (hf _ (List.mem_map.2 ⟨c, hg, rfl⟩)) (by simp)
        | some p =>
          have h1 := List.mem_of_find?_eq_some hf
          have h2 : p.2 = asg pi c := by simpa using List.find?_some hf
          obtain ⟨g, hg', rfl⟩ := List.mem_map.1 h1
          obtain ⟨o2, ho2⟩ := gsK g hg'
          exact ⟨_, rfl, H.inj g o2 c o ho2 ho h2⟩
      obtain ⟨p, hp, rfl⟩ := hp'
      unfold afterCtx
      simp only [hp, and_self]
    · have := (k9 c hg).2
      simp only [Bool.not_eq_true'] at this
      rw [hasN_mem.2 hm] at this; cases this
    · rw [hget_append] at ho
      by_cases hm : i ∈ keysH (renH (asg (pi ++ pn)) hr)
      · rw [if_pos hm] at ho
        obtain ⟨id, o', h1, h2, h3⟩ := renH_get ho
        have h6 := k6 _ h1
        simp only [Bool.and_eq_true] at h6
        have h7 := onlyO_spec h6.2
        exact .inl ⟨id, o', cls id (hasN_mem.1 h6.1), hsub.mem h1, h2, h3, h7.1, fun j hj => cls j (h7.2 j hj)⟩
      · rw [if_neg hm] at ho
        refine .inr ⟨ho, fun id o2 h1 e => hm ?_⟩
        rw [keysH_renH]
        have h2 := k2 id (mem_keysH h1).1
        exact List.mem_map.2 ⟨id, hasN_mem.1 h2.1.1.2, (Nat.eq_of_beq_eq_true h2.1.2).trans e⟩
  exact ⟨_, L.rel H r r', L.res H r r' (fun j hj => cls j (only_in k8 hj)) hxr⟩
def hcOk (hc : Hp) (pi : List (Nat × Nat)) : Bool := ((keysH hc).all fun i => (keysH hc).all fun j => Nat.beq i j || !Nat.beq (asg pi i) (asg pi j)) && (hc.all fun p => match p.2 with | some o => onlyO (keysH hc) o | none => true)
/-- A call whose outcome is one of some. -/
theorem Es_callEx {ι : Type} {f : FuncId} {args : List AV} {hc : Hp} {hr : ι → Hp} {ids : List Nat} {rv : ι → AV} {I : ι → Prop} {t : Nat} (gs : List Nat) (pi pn : List (Nat × Nat)) (C : AC P f args hc ids (fun r h' => ∃ i, I i ∧ r = rv i ∧ SubH (hr i) h')) (ha : callA env o.op = some (f, ren.renL (asg pi) args))
    (hw : wantedA all env o = some true) (hd : o.dst = some t) (hdk : dstOk (some t) O.nt = true) (hin : AllIn (asg pi) h hc) (hf : newB (pn.map (·.2)) env h = true) (hk : ∀ i, I i → callOkG O ids gs hc (hr i) (rv i) pi pn = true) (hl : ∀ i, I i → LenG gs (hr i) hc)
    (hi : hcOk hc pi = true) (K : ∀ i, I i → EvS P O all rest ((t, ren (asg (pi ++ pn)) (rv i)) :: env) (renH (asg (pi ++ pn)) (hr i) ++ h) Q) : EvS P O all (o :: rest) env h Q := by
  intro a w G r
  unfold wpList
  rw [if_pos (wantedA_ok r hw)]
  refine .inl ?_
  obtain ⟨vs, hrun, hlen, hrep⟩ := run_callA ha C.1 (fun _ _ => rfl) r
  have H : Handed O env h G hc (asg pi) := by
    unfold hcOk at hi
    simp only [Bool.and_eq_true, List.all_eq_true] at hi
    refine ⟨fun id o ho => hin.get id o ho, fun id o id' o' h1 h2 h3 => ?_, fun id o ho => ?_⟩
    · have := hi.1 id (mem_keysH h1).1 id' (mem_keysH h2).1
      rw [Bool.or_eq_true] at this
      rcases this with e | e
      · exact Nat.eq_of_beq_eq_true e
      · exact absurd h3 (beq_false_ne e)
    · have := hi.2 _ (mem_keysH ho).2
      exact (onlyO_spec this).1
  unfold Oper.wp
  rw [hrun]
  show Calls P f vs.toArray w _
  refine (C.atH H r (by rw [hlen, renL_map, List.length_map]) (fun i x v hx hv => hrep i _ v (by rw [renL_map, List.getElem?_map, hx]; rfl) hv)).mono ?_
  rintro e w' ⟨v, x, h'', G', rfl, r', hxr, i, hI, rfl, hsub⟩
  obtain ⟨G2, r2, hx2⟩ := callG_after r (newB_at hf) H (hk i hI) (hl i hI) r' hxr hsub
  have r3 := r2.put (d := o.dst) (by rw [hd]; exact hdk) hx2
  rw [hd] at r3 ⊢
  exact K i hI _ _ _ r3

theorem Es_callExN {ι : Type} {f : FuncId} {args : List AV} {hc : Hp} {hr : ι → Hp} {ids : List Nat} {rv : ι → AV} {I : ι → Prop} {t : Nat} (hr' : ι → Hp) (rv' : ι → AV) (gs : List Nat) (pi pn : List (Nat × Nat)) (C : AC P f args hc ids (fun r h' => ∃ i, I i ∧ r = rv i ∧ SubH (hr i) h')) (ha : callA env o.op = some (f, ren.renL (asg pi) args))
    (hw : wantedA all env o = some true) (hd : o.dst = some t) (hdk : dstOk (some t) O.nt = true) (hin : AllIn (asg pi) h hc) (hf : newB (pn.map (·.2)) env h = true) (hk : ∀ i, I i → callOkG O ids gs hc (hr i) (rv i) pi pn = true) (hl : ∀ i, I i → LenG gs (hr i) hc)
    (hi : hcOk hc pi = true) (e1 : ∀ i, ren (asg (pi ++ pn)) (rv i) = rv' i) (e2 : ∀ i, renH (asg (pi ++ pn)) (hr i) = hr' i) (K : ∀ i, I i → EvS P O all rest ((t, rv' i) :: env) (hr' i ++ h) Q) : EvS P O all (o :: rest) env h Q :=
  Es_callEx gs pi pn C ha hw hd hdk hin hf hk hl hi (fun i hI => by rw [e1, e2]; exact K i hI)

/-! ### a call of yield: a round -/
/-! ### the statement -/
/-! ### raw walks: what holds behind them is told of acts and worlds -/
/-! ### the function's end, a mark taken back -/
end
end Go.SL
