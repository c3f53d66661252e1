/- The layer 'SL': operations that make or turn objects. -/
import Derived.Test.YtglkilmflohfoaaDoorS4
namespace Go.SL
open Go.RowKit

theorem heap_lt {w : World} {b : Nat} {o : Obj} (h : w.heap[b]? = some o) : b < w.heap.size := (Array.getElem?_eq_some_iff.1 h).1

theorem arr_lt {w : World} {X : Nat → Prop} {G : Ctx} {id ety sz : Nat} {es : List (List D)} (h : ArrRep w X G id ety sz es) {b : Nat} (hb : blk (G.m id) = some b) : b < w.heap.size := by
  obtain ⟨_, _, _, xs, hown, _⟩ := h
  refine (hown.lt b ?_).2
  cases hv : G.m id with
  | slice A n c =>
    rw [hv] at hb
    cases A with
    | none => cases hb
    | some a => exact hb
  | _ =>
    rcases hown.2 with ⟨e, _⟩ | ⟨g, cap, cur, e, _⟩ <;> rw [hv] at e <;> cases e
theorem mem_nxN {n j : Nat} {dt : Option (Nat × Nat × Nat)} : j ∈ nxN n dt ↔ ∃ i, i < n ∧ offD dt i = false ∧ j = inm i := by
  unfold nxN
  simp only [List.mem_map, List.mem_filter, List.mem_range, Bool.not_eq_true']
  constructor
  · rintro ⟨i, ⟨h1, h2⟩, rfl⟩; exact ⟨i, h1, h2, rfl⟩
  · rintro ⟨i, h1, h2, rfl⟩; exact ⟨i, ⟨h1, h2⟩, rfl⟩
theorem nx_row {w : World} {X : Nat → Prop} {G : Ctx} {id kt et ety sz : Nat} {rs : List (Value × List (List D))} {dt : Option (Nat × Nat × Nat)} {it : Option (Nat × List Value × Option Value)} (h : ObjRep w X G id (.nx kt et ety sz rs dt it)) {i : Nat} (hi : i < rs.length) (ho : offD dt i = false) :
    ∃ r, (∃ c, blk (G.m (inm i)) = some c) ∧ ArrRep w X G (inm i) ety sz r := by
  obtain ⟨b, ents, clock, h1, h2, h3, h4, _⟩ := h
  have e1 : rs[i]? = some (rs[i].1, rs[i].2) := List.getElem?_eq_getElem hi
  have e2 : ents[i]? = some ents[i] := Array.getElem?_eq_getElem (by omega)
  exact ⟨_, ((h4 i _ _ _ e1 e2).2.1 ho).2⟩
theorem ObjRep.lt {w : World} {X : Nat → Prop} {G : Ctx} {id : Nat} {o : AObj} (h : ObjRep w X G id o) {j b : Nat} (hj : j ∈ id :: names o) (hb : blk (G.m j) = some b) : b < w.heap.size := by
  cases o with
  | cells cs =>
    obtain ⟨b', arr, ty, h1, h2, _⟩ := h
    have : j = id := by simpa [names] using hj
    subst this
    rw [h1] at hb
    cases hb
    exact heap_lt h2
  | tcl ty cs =>
    obtain ⟨b', arr, h1, h2, _⟩ := h
    have : j = id := by simpa [names] using hj
    subst this
    rw [h1] at hb
    cases hb
    exact heap_lt h2
  | arr ety sz es =>
    obtain ⟨_, _, _, xs, hown, _⟩ := h
    have : j = id := by simpa [names] using hj
    subst this
    refine (hown.lt b ?_).2
    cases hv : G.m j with
    | slice A n c =>
      rw [hv] at hb
      cases A with
      | none => cases hb
      | some a => exact hb
    | _ =>
      rcases hown.2 with ⟨e, _⟩ | ⟨g, cap, cur, e, _⟩ <;> rw [hv] at e <;> cases e
  | raw b' o =>
    obtain ⟨h1, h2⟩ := h
    have : j = id := by simpa [names] using hj
    subst this
    rw [h1] at hb
    cases hb
    exact heap_lt h2
  | mapF kt et es =>
    obtain ⟨b', ents, h1, h2, _⟩ := h
    have : j = id := by simpa [names] using hj
    subst this
    rw [h1] at hb
    cases hb
    exact heap_lt h2
  | mapS kt et es st ck it =>
    obtain ⟨b', ents, h1, h2, _, _, _, h6⟩ := h
    rcases List.mem_cons.1 hj with e | e
    · subst e
      rw [h1] at hb
      cases hb
      exact heap_lt h2
    · cases it with
      | none => cases e
      | some p =>
        obtain ⟨i, todo⟩ := p
        obtain ⟨ib, stamps, e1, e2, _⟩ := h6
        have : j = i := by simpa [names, itN] using e
        subst this
        rw [e1] at hb
        cases hb
        exact heap_lt e2
  | mapP kt et es =>
    obtain ⟨_, _, b', ents, _, h1, h2, _⟩ := h
    have : j = id := by simpa [names] using hj
    subst this
    rw [h1] at hb
    cases hb
    exact heap_lt h2
  | nx kt et ety sz rs dt it =>
    have hrow := fun i hi ho => nx_row h (i := i) hi ho
    obtain ⟨b', ents, clock, h1, h2, _, _, _, _, h6⟩ := h
    rcases List.mem_cons.1 hj with e | e
    · subst e
      rw [h1] at hb
      cases hb
      exact heap_lt h2
    · rcases List.mem_append.1 e with e | e
      · cases it with
        | none => cases e
        | some p =>
          obtain ⟨i, todo⟩ := p
          obtain ⟨ib, stamps, e1, e2, _⟩ := h6
          have : j = i := by simpa [itN] using e
          subst this
          rw [e1] at hb
          cases hb
          exact heap_lt e2
      · obtain ⟨i, hi, ho, rfl⟩ := mem_nxN.1 e
        obtain ⟨r, _, hr⟩ := hrow i hi ho
        exact arr_lt hr hb
  | map kt et es it =>
    obtain ⟨b', ents, clock, h1, h2, _, _, _, _, h6⟩ := h
    rcases List.mem_cons.1 hj with e | e
    · subst e
      rw [h1] at hb
      cases hb
      exact heap_lt h2
    · cases it with
      | none => cases e
      | some p =>
        obtain ⟨i, todo⟩ := p
        obtain ⟨ib, stamps, e1, e2, _⟩ := h6
        have : j = i := by simpa [names] using e
        subst this
        rw [e1] at hb
        cases hb
        exact heap_lt e2

/-- An object stays, where only other blocks turn. -/
theorem ObjRep.ext {w w' : World} {X X' C : Nat → Prop} {G G' : Ctx} {id : Nat} {o : AObj} (h : ObjRep w X G id o) (he : Ext C w w') (hC : ∀ b, b < w.heap.size → C b → X b)
    (hX : ∀ b, b < w.heap.size → X' b → X b) (hG : ∀ {x : AV} {v : Value}, Rep w X G x v → Rep w' X' G' x v) (hm : ∀ j, j ∈ id :: names o → G'.m j = G.m j ∧ G'.len j = G.len j)
    (hn : ∀ j b, j ∈ id :: names o → blk (G.m j) = some b → ¬ C b) : ObjRep w' X' G' id o := by
  have hm0 := hm id List.mem_cons_self
  cases o with
  | cells cs =>
    obtain ⟨b, arr, ty, h1, h2, h3, h4⟩ := h
    exact ⟨b, arr, ty, hm0.1.trans h1, (he.block b (heap_lt h2) (hn id b List.mem_cons_self (by rw [h1]; rfl))).trans h2, h3, fun i c v hc hv => ⟨hG (h4 i c v hc hv).1, (h4 i c v hc hv).2⟩⟩
  | tcl ty cs =>
    obtain ⟨b, arr, h1, h2, h3, h4, h5⟩ := h
    exact ⟨b, arr, hm0.1.trans h1, (he.block b (heap_lt h2) (hn id b List.mem_cons_self (by rw [h1]; rfl))).trans h2, h3, fun i c v hc hv => ⟨hG (h4 i c v hc hv).1, (h4 i c v hc hv).2⟩, h5⟩
  | arr ety sz es =>
    obtain ⟨h1, h2, h3, xs, h4, h5⟩ := h
    refine ⟨hm0.2.trans h1, by rw [hm0.1]; exact h2, h3, xs, ?_, fun i e hi j x hj => let ⟨v, e1, e2⟩ := h5 i e hi j x hj; ⟨v, e1, e2.ext he hC hX⟩⟩
    rw [hm0.1]
    refine ⟨h4.1, ?_⟩
    rcases h4.2 with e | ⟨g, cap, cur, e1, e2, e3, e4⟩
    · exact .inl e
    · exact .inr ⟨g, cap, cur, e1, e2, (he.block g (heap_lt e3) (hn id g List.mem_cons_self (by rw [e1]; rfl))).trans e3, e4⟩
  | raw b o =>
    obtain ⟨h1, h2⟩ := h
    exact ⟨hm0.1.trans h1, (he.block b (heap_lt h2) (hn id b List.mem_cons_self (by rw [h1]; rfl))).trans h2⟩
  | mapF kt et es =>
    obtain ⟨b, ents, h1, h2, h3, h4, h5⟩ := h
    exact ⟨b, ents, hm0.1.trans h1, (he.block b (heap_lt h2) (hn id b List.mem_cons_self (by rw [h1]; rfl))).trans h2, h3, fun i k c e hi hj => ⟨(h4 i k c e hi hj).1, hG (h4 i k c e hi hj).2.1, (h4 i k c e hi hj).2.2⟩, h5⟩
  | mapS kt et es st ck it =>
    obtain ⟨b, ents, h1, h2, h3, h4, h5, h7⟩ := h
    refine ⟨b, ents, hm0.1.trans h1, (he.block b (heap_lt h2) (hn id b List.mem_cons_self (by rw [h1]; rfl))).trans h2, h3, fun i k c e hi hj => ⟨(h4 i k c e hi hj).1, hG (h4 i k c e hi hj).2.1, (h4 i k c e hi hj).2.2⟩, h5, ?_⟩
    cases it with
    | none => trivial
    | some p =>
      obtain ⟨i, todo⟩ := p
      obtain ⟨ib, stamps, e1, e2, e3⟩ := h7
      have hmi := hm i (by simp [names, itN])
      exact ⟨ib, stamps, hmi.1.trans e1, (he.block ib (heap_lt e2) (hn i ib (by simp [names, itN]) (by rw [e1]; rfl))).trans e2, e3⟩
  | mapP kt et es0 =>
    obtain ⟨es, hp, b, ents, clock, h1, h2, h3, h4, h5⟩ := h
    exact ⟨es, hp, b, ents, clock, hm0.1.trans h1, (he.block b (heap_lt h2) (hn id b List.mem_cons_self (by rw [h1]; rfl))).trans h2, h3, fun i k c e hi hj => ⟨(h4 i k c e hi hj).1, hG (h4 i k c e hi hj).2.1, (h4 i k c e hi hj).2.2⟩, h5⟩
  | nx kt et ety sz rs dt it =>
    have hlen : ∀ i k r, rs[i]? = some (k, r) → i < rs.length := fun i k r hi => (List.getElem?_eq_some_iff.1 hi).1
    obtain ⟨b, ents, clock, h1, h2, h3, h4, h5, h6, h7⟩ := h
    refine ⟨b, ents, clock, hm0.1.trans h1, (he.block b (heap_lt h2) (hn id b List.mem_cons_self (by rw [h1]; rfl))).trans h2, h3, fun i k r e hi hj => ⟨(h4 i k r e hi hj).1, fun ho => ?_, fun j n hd => hG ((h4 i k r e hi hj).2.2 j n hd)⟩, h5, h6, ?_⟩
    · obtain ⟨e1, ⟨c, hc⟩, g1, g2, g3, xs, g4, g5⟩ := (h4 i k r e hi hj).2.1 ho
      have hmem : inm i ∈ id :: names (.nx kt et ety sz rs dt it) := List.mem_cons_of_mem _ (List.mem_append_right _ (mem_nxN.2 ⟨i, hlen i k r hi, ho, rfl⟩))
      have hmi := hm _ hmem
      refine ⟨by rw [hmi.1]; exact e1, ⟨c, by rw [hmi.1]; exact hc⟩, hmi.2.trans g1, by rw [hmi.1]; exact g2, g3, xs, ?_, fun i e hi j x hj => let ⟨v, e1, e2⟩ := g5 i e hi j x hj; ⟨v, e1, e2.ext he hC hX⟩⟩
      rw [hmi.1]
      refine ⟨g4.1, ?_⟩
      rcases g4.2 with e | ⟨g, cap, cur, e1, e2, e3, e4⟩
      · exact .inl e
      · exact .inr ⟨g, cap, cur, e1, e2, (he.block g (heap_lt e3) (hn _ g hmem (by rw [e1]; rfl))).trans e3, e4⟩
    · cases it with
      | none => trivial
      | some p =>
        obtain ⟨i, todo⟩ := p
        obtain ⟨ib, stamps, e1, e2, e3⟩ := h7
        have hmem : i ∈ id :: names (.nx kt et ety sz rs dt (some (i, todo))) := List.mem_cons_of_mem _ (List.mem_append_left _ (by simp [itN]))
        have hmi := hm i hmem
        exact ⟨ib, stamps, hmi.1.trans e1, (he.block ib (heap_lt e2) (hn i ib hmem (by rw [e1]; rfl))).trans e2, e3⟩
  | map kt et es it =>
    obtain ⟨b, ents, clock, h1, h2, h3, h4, h5, h6, h7⟩ := h
    refine ⟨b, ents, clock, hm0.1.trans h1, (he.block b (heap_lt h2) (hn id b List.mem_cons_self (by rw [h1]; rfl))).trans h2, h3, fun i k c e hi hj => ⟨(h4 i k c e hi hj).1, hG (h4 i k c e hi hj).2.1, (h4 i k c e hi hj).2.2⟩, h5, h6, ?_⟩
    cases it with
    | none => trivial
    | some p =>
      obtain ⟨i, todo⟩ := p
      obtain ⟨ib, stamps, e1, e2, e3⟩ := h7
      have hmi := hm i (by simp [names])
      exact ⟨ib, stamps, hmi.1.trans e1, (he.block ib (heap_lt e2) (hn i ib (by simp [names]) (by rw [e1]; rfl))).trans e2, e3⟩

theorem freshO_rep {w : World} {X : Nat → Prop} {G : Ctx} {id : Nat} {i : Nat} {o : AObj} (mv : Value) (n : Nat) (hf : freshO id o = true) (hi : i ≠ id) (h : ObjRep w X G i o) : ObjRep w X (G.set id mv n) i o := by
  cases o with
  | cells cs =>
    obtain ⟨b, arr, ty, h1, h2, h3, h4⟩ := h
    unfold freshO at hf
    exact ⟨b, arr, ty, (G.set_m_ne _ _ hi).trans h1, h2, h3, fun i c v hc hv => ⟨(h4 i c v hc hv).1.setFresh mv n (freshL_mem hf hc), (h4 i c v hc hv).2⟩⟩
  | tcl ty cs =>
    obtain ⟨b, arr, h1, h2, h3, h4, h5⟩ := h
    unfold freshO at hf
    exact ⟨b, arr, (G.set_m_ne _ _ hi).trans h1, h2, h3, fun i c v hc hv => ⟨(h4 i c v hc hv).1.setFresh mv n (freshL_mem hf hc), (h4 i c v hc hv).2⟩, h5⟩
  | arr ety sz es =>
    obtain ⟨h1, h2, h3, h4⟩ := h
    refine ⟨(G.set_len_ne _ _ hi).trans h1, by rw [G.set_m_ne _ _ hi]; exact h2, h3, by rw [G.set_m_ne _ _ hi]; exact h4⟩
  | raw b o => exact ⟨(G.set_m_ne _ _ hi).trans h.1, h.2⟩
  | mapF kt et es =>
    obtain ⟨b, ents, h1, h2, h3, h4, h5⟩ := h
    exact ⟨b, ents, (G.set_m_ne _ _ hi).trans h1, h2, h3, fun i k c e hi hj => ⟨(h4 i k c e hi hj).1, (h4 i k c e hi hj).2.1.noid _ (h4 i k c e hi hj).2.2, (h4 i k c e hi hj).2.2⟩, h5⟩
  | mapS kt et es st ck it =>
    obtain ⟨b, ents, h1, h2, h3, h4, h5, h7⟩ := h
    refine ⟨b, ents, (G.set_m_ne _ _ hi).trans h1, h2, h3, fun i k c e hi hj => ⟨(h4 i k c e hi hj).1, (h4 i k c e hi hj).2.1.noid _ (h4 i k c e hi hj).2.2, (h4 i k c e hi hj).2.2⟩, h5, ?_⟩
    cases it with
    | none => trivial
    | some p =>
      obtain ⟨j, todo⟩ := p
      obtain ⟨ib, stamps, e1, e2⟩ := h7
      exact ⟨ib, stamps, (G.set_m_ne _ _ (beq_ne hf)).trans e1, e2⟩
  | mapP kt et es0 =>
    obtain ⟨es, hp, b, ents, clock, h1, h2, h3, h4, h5⟩ := h
    exact ⟨es, hp, b, ents, clock, (G.set_m_ne _ _ hi).trans h1, h2, h3, fun i k c e hi hj => ⟨(h4 i k c e hi hj).1, (h4 i k c e hi hj).2.1.noid _ (h4 i k c e hi hj).2.2, (h4 i k c e hi hj).2.2⟩, h5⟩
  | nx kt et ety sz rs dt it =>
    obtain ⟨b, ents, clock, h1, h2, h3, h4, h5, h6, h7⟩ := h
    unfold freshO at hf
    rw [Bool.and_eq_true, Bool.and_eq_true] at hf
    obtain ⟨f1, f2, f3⟩ := hf
    have hlt : id < 1000000 := by simpa using f1
    refine ⟨b, ents, clock, (G.set_m_ne _ _ hi).trans h1, h2, h3, fun i k r e hi hj => ⟨(h4 i k r e hi hj).1, fun ho => ?_, fun j n' hd => ?_⟩, h5, h6, ?_⟩
    · have hne : inm i ≠ id := by unfold inm; omega
      obtain ⟨e1, e2, g1, g2, g3, g4⟩ := (h4 i k r e hi hj).2.1 ho
      exact ⟨by rw [G.set_m_ne _ _ hne]; exact e1, by rw [G.set_m_ne _ _ hne]; exact e2, (G.set_len_ne _ _ hne).trans g1, by rw [G.set_m_ne _ _ hne]; exact g2, g3, by rw [G.set_m_ne _ _ hne]; exact g4⟩
    · subst hd
      exact ((h4 i k r e hi hj).2.2 j n' rfl).setFresh mv n f2
    · cases it with
      | none => trivial
      | some p =>
        obtain ⟨j, todo⟩ := p
        obtain ⟨ib, stamps, e1, e2⟩ := h7
        exact ⟨ib, stamps, (G.set_m_ne _ _ (beq_ne f3)).trans e1, e2⟩
  | map kt et es it =>
    obtain ⟨b, ents, clock, h1, h2, h3, h4, h5, h6, h7⟩ := h
    refine ⟨b, ents, clock, (G.set_m_ne _ _ hi).trans h1, h2, h3, fun i k c e hi hj => ⟨(h4 i k c e hi hj).1, (h4 i k c e hi hj).2.1.noid _ (h4 i k c e hi hj).2.2, (h4 i k c e hi hj).2.2⟩, h5, h6, ?_⟩
    cases it with
    | none => trivial
    | some p =>
      obtain ⟨j, todo⟩ := p
      obtain ⟨ib, stamps, e1, e2⟩ := h7
      exact ⟨ib, stamps, (G.set_m_ne _ _ (beq_ne hf)).trans e1, e2⟩

theorem names_ne {id j : Nat} {o : AObj} (hf : freshO id o = true) (hj : j ∈ names o) : j ≠ id := by
  cases o with
  | nx kt et ety sz rs dt it =>
    unfold freshO at hf
    rw [Bool.and_eq_true, Bool.and_eq_true] at hf
    obtain ⟨f1, f2, f3⟩ := hf
    have hlt : id < 1000000 := by simpa using f1
    rcases List.mem_append.1 hj with e | e
    · cases it with
      | none => cases e
      | some p =>
        obtain ⟨i, todo⟩ := p
        have : j = i := by simpa [itN] using e
        subst this
        exact beq_ne f3
    · obtain ⟨i, _, _, rfl⟩ := mem_nxN.1 e
      unfold inm; omega
  | map kt et es it =>
    cases it with
    | none => cases hj
    | some p =>
      obtain ⟨i, todo⟩ := p
      have : j = i := by simpa [names] using hj
      subst this
      exact beq_ne hf
  | mapS kt et es st ck it =>
    cases it with
    | none => cases hj
    | some p =>
      obtain ⟨i, todo⟩ := p
      have : j = i := by simpa [names, itN] using hj
      subst this
      exact beq_ne hf
  | _ => cases hj

theorem Own_cons {h : Hp} {id : Nat} {o : AObj} {G G' : Ctx} {b : Nat} (ho : Own ((id, some o) :: h) G' b) (hm : ∀ i o', hget h i = some o' → i ≠ id → ∀ j ∈ i :: names o', G'.m j = G.m j) :
    (∃ j, j ∈ id :: names o ∧ blk (G'.m j) = some b) ∨ Own h G b := by
  obtain ⟨i, o', h1, j, hj, hb⟩ := ho
  rw [hget_cons] at h1
  by_cases e : id = i
  · subst e
    rw [if_pos rfl] at h1
    cases h1
    exact .inl ⟨j, hj, hb⟩
  · rw [if_neg e] at h1
    exact .inr ⟨i, o', h1, j, hj, by rw [← hm i o' h1 (fun x => e x.symm) j hj]; exact hb⟩

/-- A new object under a new name. -/
theorem Rel.newG {O : Org} {env : Env} {h : Hp} {a : Act} {w w' : World} {G : Ctx} (r : Rel O env h a w G) (he : Ext (fun _ => False) w w') {id : Nat} {mv : Value} {n : Nat} {o : AObj} (hf : freshAt id env h) (hid : id ∉ O.ids) (hn : names o = [])
    (hmv : ∀ b, blk mv = some b → w.heap.size ≤ b) (ho : ObjRep w' (XX O ((id, some o) :: h) (G.set id mv n)) (G.set id mv n) id o) :
    Rel O env ((id, some o) :: h) a w' (G.set id mv n) := by
  obtain ⟨hf1, hf2, hf3⟩ := hf
  have hne : ∀ i o', hget h i = some o' → i ≠ id := fun i o' h1 e => by subst e; rw [hf3] at h1; cases h1
  have hmj : ∀ i o', hget h i = some o' → i ≠ id → ∀ j ∈ i :: names o', (G.set id mv n).m j = G.m j := fun i o' h1 hi j hj => by
    rcases List.mem_cons.1 hj with e | e
    · subst e; exact G.set_m_ne _ _ hi
    · exact G.set_m_ne _ _ (names_ne (hf2 i o' h1) e)
  have hlenj : ∀ i o', hget h i = some o' → ∀ j ∈ i :: names o', (G.set id mv n).len j = G.len j := fun i o' h1 j hj => by
    rcases List.mem_cons.1 hj with e | e
    · subst e; exact G.set_len_ne _ _ (hne _ o' h1)
    · exact G.set_len_ne _ _ (names_ne (hf2 i o' h1) e)
  have hX : ∀ b, b < w.heap.size → XX O ((id, some o) :: h) (G.set id mv n) b → XX O h G b := by
    intro b hb hx
    rcases hx with hx | hx
    · exact .inl hx
    · rcases Own_cons hx hmj with ⟨j, hj, e⟩ | e
      · have : j = id := by simpa [hn] using hj
        subst this
        rw [G.set_m] at e
        have := hmv b e
        omega
      · exact .inr e
  have hrep : ∀ {x : AV} {v : Value}, fresh id x = true → Rep w (XX O h G) G x v → Rep w' (XX O ((id, some o) :: h) (G.set id mv n)) (G.set id mv n) x v :=
    fun hx hr => (hr.setFresh mv n hx).ext he (fun _ _ h => h.elim) hX (GStep.refl _)
  refine ⟨r.size, r.dfr, fun t => hrep (hf1 t) (r.env t), fun i o' h1 => ?_, fun i o1 j i' o2 j' b h1 hj h2 hj' e1 e2 => ?_, ?_, fun b hb hlt => ?_, r.xlt, fun i hi => ?_⟩
  · rw [hget_cons] at h1
    by_cases e : id = i
    · subst e
      rw [if_pos rfl] at h1
      cases h1
      exact ho
    · rw [if_neg e] at h1
      have h2 := freshO_rep mv n (hf2 i o' h1) (fun x => e x.symm) (r.obj i o' h1)
      exact h2.ext he (fun _ _ h => h.elim) hX (fun hr => hr.ext he (fun _ _ h => h.elim) hX (GStep.refl _)) (fun _ _ => ⟨rfl, rfl⟩) (fun _ _ _ _ h => h)
  · have old : ∀ k ok jk, hget h k = some ok → jk ∈ k :: names ok → blk ((G.set id mv n).m jk) = some b → b < w.heap.size := fun k ok jk hk hjk e => by
      rw [hmj k ok hk (hne k ok hk) jk hjk] at e
      exact (r.obj k ok hk).lt hjk e
    rw [hget_cons] at h1 h2
    by_cases ei : id = i
    · subst ei
      rw [if_pos rfl] at h1
      cases h1
      have hj0 : j = id := by simpa [hn] using hj
      subst hj0
      rw [G.set_m] at e1
      have hb := hmv b e1
      by_cases ei' : j = i'
      · subst ei'
        rw [if_pos rfl] at h2
        cases h2
        have : j' = j := by simpa [hn] using hj'
        exact ⟨rfl, this.symm⟩
      · rw [if_neg ei'] at h2
        have := old i' o2 j' h2 hj' e2
        omega
    · rw [if_neg ei] at h1
      by_cases ei' : id = i'
      · subst ei'
        rw [if_pos rfl] at h2
        cases h2
        have hj0 : j' = id := by simpa [hn] using hj'
        subst hj0
        rw [G.set_m] at e2
        have hb := hmv b e2
        have := old i o1 j h1 hj e1
        omega
      · rw [if_neg ei'] at h2
        rw [hmj i o1 h1 (hne i o1 h1) j hj] at e1
        rw [hmj i' o2 h2 (hne i' o2 h2) j' hj'] at e2
        exact r.dist i o1 j i' o2 j' b h1 hj h2 hj' e1 e2
  · exact r.ext.transNew he (fun _ _ h => h.elim)
  · rcases Own_cons hb hmj with ⟨j, hj, e⟩ | e
    · have : j = id := by simpa [hn] using hj
      subst this
      rw [G.set_m] at e
      have h1 := hmv b e
      have h2 := r.ext.size
      omega
    · exact r.own b e hlt
  · rw [G.set_m_ne _ _ (fun e => by subst e; exact hid hi)]
    exact r.ids i hi

theorem Rel.new {O : Org} {env : Env} {h : Hp} {a : Act} {w : World} {G : Ctx} (r : Rel O env h a w G) {id : Nat} {mv : Value} {n : Nat} {ob : Obj} {o : AObj} (hf : freshAt id env h) (hid : id ∉ O.ids) (hn : names o = [])
    (hmv : ∀ b, blk mv = some b → b = w.heap.size) (ho : ObjRep (w.alloc ob) (XX O ((id, some o) :: h) (G.set id mv n)) (G.set id mv n) id o) :
    Rel O env ((id, some o) :: h) a (w.alloc ob) (G.set id mv n) :=
  r.newG (Ext.alloc _ w ob) hf hid hn (fun b hb => Nat.le_of_eq (hmv b hb).symm) ho

/-- One owned object turns: its own blocks alone; its names keep their places, or it is an owned array that has grown. -/
theorem Rel.turn {O : Org} {env : Env} {h : Hp} {a : Act} {w w' : World} {G G' : Ctx} (r : Rel O env h a w G) {id : Nat} {o o' : AObj} {C : Nat → Prop} (hh : hget h id = some o) (he : Ext C w w')
    (hC : ∀ b, b < w.heap.size → C b → ∃ j, j ∈ id :: names o ∧ blk (G.m j) = some b) (hG : GStep G G') (hGo : ∀ j, j ≠ id → G'.m j = G.m j ∧ G'.len j = G.len j)
    (hids : id ∈ O.ids → G'.m id = G.m id) (hnm : names o' = names o) (hb : ∀ b, blk (G'.m id) = some b → b < w.heap.size → blk (G.m id) = some b)
    (ho : ObjRep w' (XX O ((id, some o') :: h) G') G' id o') (hnew : ∀ b, blk (G'.m id) = some b → w.heap.size ≤ b ∨ blk (G.m id) = some b) (hnn : id ∉ names o) : Rel O env ((id, some o') :: h) a w' G' := by
  have hCX : ∀ b, b < w.heap.size → C b → XX O h G b := fun b hlt hc => let ⟨j, h1, h2⟩ := hC b hlt hc; .inr ⟨id, o, hh, j, h1, h2⟩
  have hOwn : ∀ b, Own ((id, some o') :: h) G' b → Own h G b ∨ w.heap.size ≤ b := by
    intro b hx
    obtain ⟨i, oo, h1, j, hj, hbb⟩ := hx
    rw [hget_cons] at h1
    by_cases e : id = i
    · subst e
      rw [if_pos rfl] at h1
      cases h1
      by_cases ej : j = id
      · subst ej
        rcases hnew b hbb with h2 | h2
        · exact .inr h2
        · exact .inl ⟨j, o, hh, j, List.mem_cons_self, h2⟩
      · rw [(hGo j ej).1] at hbb
        rw [hnm] at hj
        exact .inl ⟨id, o, hh, j, hj, hbb⟩
    · rw [if_neg e] at h1
      by_cases ej : j = id
      · subst ej
        rcases hnew b hbb with h2 | h2
        · exact .inr h2
        · exact .inl ⟨i, oo, h1, j, hj, h2⟩
      · rw [(hGo j ej).1] at hbb
        exact .inl ⟨i, oo, h1, j, hj, hbb⟩
  have hX : ∀ b, b < w.heap.size → XX O ((id, some o') :: h) G' b → XX O h G b := by
    intro b hlt hx
    rcases hx with hx | hx
    · exact .inl hx
    · rcases hOwn b hx with h2 | h2
      · exact .inr h2
      · omega
  have hrep : ∀ {x : AV} {v : Value}, Rep w (XX O h G) G x v → Rep w' (XX O ((id, some o') :: h) G') G' x v := fun hr => hr.ext he hCX hX hG
  have hblk : ∀ j b, (∃ i oo, hget h i = some oo ∧ j ∈ i :: names oo) → blk (G'.m j) = some b → b < w.heap.size → blk (G.m j) = some b := fun j b _ h1 h2 => by
    by_cases ej : j = id
    · subst ej; exact hb b h1 h2
    · rw [(hGo j ej).1] at h1; exact h1
  refine ⟨r.size, r.dfr, fun t => hrep (r.env t), fun i oo h1 => ?_, fun i o1 j i' o2 j' b h1 hj h2 hj' e1 e2 => ?_, ?_, fun b hb' hlt => ?_, r.xlt, fun i hi => ?_⟩
  · rw [hget_cons] at h1
    by_cases e : id = i
    · subst e
      rw [if_pos rfl] at h1
      cases h1
      exact ho
    · rw [if_neg e] at h1
      have hjne : ∀ j, j ∈ i :: names oo → j ≠ id := by
        intro j hj ej
        subst ej
        -- the name of an object is no iterator of another one: its block would be both
        rcases List.mem_cons.1 hj with e2 | e2
        · exact e e2
        · have hr := r.obj i oo h1
          cases oo with
          | map kt et es it =>
            cases it with
            | none => cases e2
            | some p =>
              obtain ⟨k, todo⟩ := p
              have ek : j = k := by simpa [names] using e2
              subst ek
              obtain ⟨_, _, _, _, _, _, _, _, _, ib, stamps, f1, _⟩ := hr
              have := r.dist j o j i _ j ib hh List.mem_cons_self h1 hj (by rw [f1]; rfl) (by rw [f1]; rfl)
              exact e this.1
          | mapS kt et es st ck it =>
            cases it with
            | none => cases e2
            | some p =>
              obtain ⟨k, todo⟩ := p
              have ek : j = k := by simpa [names, itN] using e2
              subst ek
              obtain ⟨_, _, _, _, _, _, _, ib, stamps, f1, _⟩ := hr
              have := r.dist j o j i _ j ib hh List.mem_cons_self h1 hj (by rw [f1]; rfl) (by rw [f1]; rfl)
              exact e this.1
          | nx kt et ety sz rs dt it =>
            rcases List.mem_append.1 e2 with e3 | e3
            · cases it with
              | none => cases e3
              | some p =>
                obtain ⟨k, todo⟩ := p
                have ek : j = k := by simpa [itN] using e3
                subst ek
                obtain ⟨_, _, _, _, _, _, _, _, _, ib, stamps, f1, _⟩ := hr
                have := r.dist j o j i _ j ib hh List.mem_cons_self h1 hj (by rw [f1]; rfl) (by rw [f1]; rfl)
                exact e this.1
            · obtain ⟨k, hk1, hk2, ek⟩ := mem_nxN.1 e3
              obtain ⟨_, ⟨c, hc⟩, _⟩ := nx_row hr hk1 hk2
              rw [← ek] at hc
              have := r.dist j o j i _ j c hh List.mem_cons_self h1 hj hc hc
              exact e this.1
          | _ => cases e2
      refine (r.obj i oo h1).ext he hCX hX hrep (fun j hj => hGo j (hjne j hj)) (fun j b hj hbb hc => ?_)
      have hlt := (r.obj i oo h1).lt hj hbb
      obtain ⟨k, hk1, hk2⟩ := hC b hlt hc
      exact e (r.dist i oo j id o k b h1 hj hh hk1 hbb hk2).1.symm
  · have conv : ∀ k ok jk, hget ((id, some o') :: h) k = some ok → jk ∈ k :: names ok → ∃ ok', hget h k = some ok' ∧ jk ∈ k :: names ok' := by
      intro k ok jk hk hjk
      rw [hget_cons] at hk
      by_cases ek : id = k
      · subst ek
        rw [if_pos rfl] at hk
        cases hk
        exact ⟨o, hh, by rw [← hnm]; exact hjk⟩
      · rw [if_neg ek] at hk
        exact ⟨ok, hk, hjk⟩
    obtain ⟨o1', g1, g2⟩ := conv i o1 j h1 hj
    obtain ⟨o2', g3, g4⟩ := conv i' o2 j' h2 hj'
    by_cases hlt : b < w.heap.size
    · exact r.dist i o1' j i' o2' j' b g1 g2 g3 g4 (hblk j b ⟨i, o1', g1, g2⟩ e1 hlt) (hblk j' b ⟨i', o2', g3, g4⟩ e2 hlt)
    · -- the block is new: it is that of 'id'
      have isid : ∀ jk, (∃ k ok, hget h k = some ok ∧ jk ∈ k :: names ok) → blk (G'.m jk) = some b → jk = id := by
        intro jk ⟨k, ok, hk, hjk⟩ eb
        by_cases ej : jk = id
        · exact ej
        · rw [(hGo jk ej).1] at eb
          exact absurd ((r.obj k ok hk).lt hjk eb) hlt
      have ej := isid j ⟨i, o1', g1, g2⟩ e1
      have ej' := isid j' ⟨i', o2', g3, g4⟩ e2
      subst ej
      have top : ∀ k ok, hget h k = some ok → j ∈ k :: names ok → k = j := by
        intro k ok hk hjk
        rcases List.mem_cons.1 hjk with e3 | e3
        · exact e3.symm
        · have hr := r.obj k ok hk
          cases ok with
          | map kt et es it =>
            cases it with
            | none => cases e3
            | some p =>
              obtain ⟨q, todo⟩ := p
              have ek : j = q := by simpa [names] using e3
              subst ek
              obtain ⟨_, _, _, _, _, _, _, _, _, ib, stamps, f1, _⟩ := hr
              exact (r.dist k _ j j o j ib hk hjk hh List.mem_cons_self (by rw [f1]; rfl) (by rw [f1]; rfl)).1
          | mapS kt et es st ck it =>
            cases it with
            | none => cases e3
            | some p =>
              obtain ⟨q, todo⟩ := p
              have ek : j = q := by simpa [names, itN] using e3
              subst ek
              obtain ⟨_, _, _, _, _, _, _, ib, stamps, f1, _⟩ := hr
              exact (r.dist k _ j j o j ib hk hjk hh List.mem_cons_self (by rw [f1]; rfl) (by rw [f1]; rfl)).1
          | nx kt et ety sz rs dt it =>
            rcases List.mem_append.1 e3 with e4 | e4
            · cases it with
              | none => cases e4
              | some p =>
                obtain ⟨q, todo⟩ := p
                have ek : j = q := by simpa [itN] using e4
                subst ek
                obtain ⟨_, _, _, _, _, _, _, _, _, ib, stamps, f1, _⟩ := hr
                exact (r.dist k _ j j o j ib hk hjk hh List.mem_cons_self (by rw [f1]; rfl) (by rw [f1]; rfl)).1
            · obtain ⟨q, hq1, hq2, ek⟩ := mem_nxN.1 e4
              obtain ⟨_, ⟨c, hc⟩, _⟩ := nx_row hr hq1 hq2
              rw [← ek] at hc
              exact (r.dist k _ j j o j c hk hjk hh List.mem_cons_self hc hc).1
          | _ => cases e3
      have t1 := top i o1' g1 g2
      have t2 := top i' o2' g3 (ej' ▸ g4)
      exact ⟨t1.trans t2.symm, ej'.symm⟩
  · refine r.ext.transNew he (fun b hlt hc => ?_)
    obtain ⟨j, hj, hbb⟩ := hC b (Nat.lt_of_lt_of_le hlt r.ext.size) hc
    exact r.own b ⟨id, o, hh, j, hj, hbb⟩ hlt
  · rcases hOwn b hb' with h2 | h2
    · exact r.own b h2 hlt
    · have := r.ext.size
      omega
  · by_cases ei : i = id
    · subst ei; rw [hids hi]; exact r.ids i hi
    · rw [(hGo i ei).1]; exact r.ids i hi
end Go.SL
/- The layer 'SL': boxes, stores, structs, slices that are made. -/
namespace Go.SL
open Go.RowKit

theorem freshL_data (id : Nat) : ∀ vs : List Value, fresh.freshL id (vs.map fun v => .d (.sc v)) = true
  | [] => rfl
  | v :: r => by
    show (fresh id (.d (.sc v)) && fresh.freshL id (r.map fun v => .d (.sc v))) = true
    rw [freshL_data id r]; rfl
/-- a value's cells -/
def cellsA : AV → Option (List AV)
  | .any | .tup _ => none
  | .agg cs => some cs
  | x => some [x]
theorem cellsA_rep {w : World} {X : Nat → Prop} {G : Ctx} {x : AV} {v : Value} {cs : List AV} (hc : cellsA x = some cs) (h : Rep w X G x v) :
    v.cells.size = cs.length ∧ ∀ (i : Nat) (c : AV) (u : Value), cs[i]? = some c → v.cells[i]? = some u → Rep w X G c u ∧ u.oneCell' = true := by
  have one : ∀ (x : AV) (v : Value), Rep w X G x v → v.oneCell' = true → v.cells.size = [x].length ∧ ∀ (i : Nat) (c : AV) (u : Value), [x][i]? = some c → v.cells[i]? = some u → Rep w X G c u ∧ u.oneCell' = true := by
    intro x v h h1
    have hv : v.cells = #[v] := by cases v <;> first | rfl | cases h1
    rw [hv]
    refine ⟨rfl, fun i c u hi hu => ?_⟩
    match i, hi, hu with
    | 0, hi, hu => simp at hi hu; subst hi; subst hu; exact ⟨h, h1⟩
  cases x with
  | any => cases hc
  | tup => cases hc
  | agg cs' =>
    cases hc
    cases h with
    | agg _ vs hs hcc h1 => exact ⟨hs, fun i c u hi hu => ⟨hcc i c u hi hu, h1 i u hu⟩⟩
  | _ =>
    cases hc
    exact one _ v h (h.one trivial)

theorem evalA_fresh {id : Nat} {env : Env} (h : ∀ t, fresh id (lk env t) = true) (x : Operand) : fresh id (evalA env x) = true := by
  cases x with
  | tmp t => exact h t
  | const v =>
    unfold evalA
    cases v with
    | agg vs =>
      show fresh id (if vs.all (fun v => v.oneCell') then .agg (vs.toList.map fun v => .d (.sc v)) else .any) = true
      split
      · exact freshL_data id vs.toList
      · rfl
    | _ => rfl
  | global g => rfl
  | func f => rfl
theorem cellsA_fresh {id : Nat} {x : AV} {cs : List AV} (hc : cellsA x = some cs) (hx : fresh id x = true) {i : Nat} {c : AV} (hi : cs[i]? = some c) : fresh id c = true := by
  have one : ∀ x : AV, fresh id x = true → [x][i]? = some c → fresh id c = true := by
    intro x hx hi
    match i, hi with
    | 0, hi => simp at hi; subst hi; exact hx
  cases x with
  | any => cases hc
  | tup => cases hc
  | agg cs' => cases hc; unfold fresh at hx; exact freshL_mem hx hi
  | _ => cases hc; exact one _ hx hi

/-- what was known of a value stays known behind a new object -/
theorem Rel.repNew {O : Org} {env : Env} {h : Hp} {a : Act} {w : World} {G : Ctx} (_r : Rel O env h a w G) {id : Nat} {mv : Value} {n : Nat} {ob : Obj} {o : AObj} (hf : freshAt id env h) (hn : names o = [])
    (hmv : ∀ b, blk mv = some b → b = w.heap.size) {x : AV} {v : Value} (hx : fresh id x = true) (hr : Rep w (XX O h G) G x v) : Rep (w.alloc ob) (XX O ((id, some o) :: h) (G.set id mv n)) (G.set id mv n) x v := by
  refine (hr.setFresh mv n hx).ext (Ext.alloc (fun _ => False) w ob) (fun _ _ h => h.elim) (fun b hb hxx => ?_) (GStep.refl _)
  rcases hxx with hxx | hxx
  · exact .inl hxx
  · rcases Own_cons hxx (fun i o' h1 hi j hj => by
      rcases List.mem_cons.1 hj with e | e
      · subst e; exact G.set_m_ne _ _ hi
      · exact G.set_m_ne _ _ (names_ne (hf.2.1 i o' h1) e)) with ⟨j, hj, e⟩ | e
    · have : j = id := by simpa [hn] using hj
      subst this
      rw [G.set_m] at e
      have := hmv b e
      omega
    · exact .inr e
/-- a box with these cells -/
theorem Rel.newBox {O : Org} {env : Env} {h : Hp} {a : Act} {w : World} {G : Ctx} (r : Rel O env h a w G) {id t : Nat} {arr : Array Value} {cs : List AV} (hf : freshAt id env h) (hid : id ∉ O.ids) (hs : arr.size = cs.length)
    (hc : ∀ (i : Nat) (c : AV) (v : Value), cs[i]? = some c → arr[i]? = some v → fresh id c = true ∧ Rep w (XX O h G) G c v ∧ v.oneCell' = true) :
    Rel O env ((id, some (.cells cs)) :: h) a (w.alloc (.cells arr t)) (G.set id (.pointer (some ⟨w.heap.size, 0, none⟩)) 0) :=
  r.new hf hid rfl (fun b hb => by cases hb; rfl) ⟨w.heap.size, arr, t, G.set_m _ _ _, heap_alloc_new w _, hs, fun i c v hi hv =>
    let ⟨h1, h2, h3⟩ := hc i c v hi hv
    ⟨r.repNew hf rfl (fun b hb => by cases hb; rfl) h1 h2, h3⟩⟩

section
variable {P : Program} {O : Org} {T : Tab P} {Q : Exit → Env → Hp → Prop} {env : Env} {h : Hp} {all rest : List Oper} {o : Oper} {rs : List Rc}

/-- a value is boxed -/
theorem LStep_box {t id : Nat} {x : Operand} {cs : List AV} (ho : o.op = .box t x) (hd : o.dst = some id) (hn : dstOk (some id) O.nt = true) (hc : cellsA (evalA env x) = some cs) (hi : O.ids.contains id = false) :
    LStep P O o env h [] [id] (.ptr id 0) [(id, some (.cells cs))] := by
  intro env' h' he _ hf a w G r K Q hK
  have hf' := hf id (by simp)
  have hx := he x (by simp [ho, Op.operands])
  have h1 := evalA_rep r.env x
  have hfx := evalA_fresh hf'.1 x
  rw [hx] at h1 hfx
  obtain ⟨hs, hcc⟩ := cellsA_rep hc h1
  have hid : id ∉ O.ids := by simpa using hi
  have hrun : (execOp a.eval o).run P w = .ok (.value (.pointer (some ⟨w.heap.size, 0, none⟩))) (w.alloc (.cells (a.eval x).cells t)) := by
    simp [execOp, ho, Instr.box, newVar, newRow]
  have r' := r.newBox (id := id) (t := t) (arr := (a.eval x).cells) (cs := cs) hf' hid hs (fun i c v hi hv => ⟨cellsA_fresh hc hfx hi, hcc i c v hi hv⟩)
  exact wp_value hrun (hK _ _ _ (r'.put (by rw [hd]; exact hn) (.ptr id 0 w.heap.size (G.set_m _ _ _))))

/-- the zero value's cells -/
def Tab.zeroC (T : Tab P) (t : Nat) : Option (List AV) :=
  match lkT T.inf t with
  | some (_, _, z) => bif z.cells.toList.all (fun v => v.oneCell') then some (z.cells.toList.map fun v => .d (.sc v)) else none
  | none => none
theorem zeroC_run {t : Nat} {cs : List AV} (hz : T.zeroC t = some cs) (w : World) : ∃ z, (zeroValue t).run P w = .ok z w ∧ z.cells.toList.map (fun v => AV.d (.sc v)) = cs ∧ ∀ v ∈ z.cells.toList, v.oneCell' = true := by
  unfold Tab.zeroC at hz
  cases h1 : lkT T.inf t with
  | none => rw [h1] at hz; cases hz
  | some p =>
    obtain ⟨s, b, z⟩ := p
    rw [h1] at hz
    simp only at hz
    cases hall : z.cells.toList.all (fun v => v.oneCell') with
    | true =>
      rw [hall] at hz
      cases hz
      obtain ⟨i, e1, _, _, e4⟩ := T.inf_ok _ (lkT_mem h1)
      refine ⟨z, by simp [zeroValue, typeInfo, e1, e4], rfl, fun v hv => ?_⟩
      rw [List.all_eq_true] at hall
      exact hall v hv
    | false => rw [hall] at hz; cases hz
/-- a new variable -/
theorem LStep_alloc {t id : Nat} {cs : List AV} (ho : o.op = .alloc t) (hd : o.dst = some id) (hn : dstOk (some id) O.nt = true) (hc : T.zeroC t = some cs) (hi : O.ids.contains id = false) :
    LStep P O o env h [] [id] (.ptr id 0) [(id, some (.cells cs))] := by
  intro env' h' he _ hf a w G r K Q hK
  have hf' := hf id (by simp)
  obtain ⟨z, hz, rfl, hone⟩ := zeroC_run hc w
  have hid : id ∉ O.ids := by simpa using hi
  have hrun : (execOp a.eval o).run P w = .ok (.value (.pointer (some ⟨w.heap.size, 0, none⟩))) (w.alloc (.cells z.cells t)) := by
    simp [execOp, ho, Instr.alloc, hz, newVar, newRow]
  have r' := r.newBox (id := id) (t := t) (arr := z.cells) (cs := z.cells.toList.map fun v => .d (.sc v)) hf' hid (by simp) (fun i c v hi hv => by
    simp only [List.getElem?_map, Array.getElem?_toList, hv, Option.map_some, Option.some.injEq] at hi
    subst hi
    have := hone v (List.mem_of_getElem? (by rw [Array.getElem?_toList]; exact hv))
    exact ⟨rfl, .d _ _ (.sc _ this), this⟩)
  exact wp_value hrun (hK _ _ _ (r'.put (by rw [hd]; exact hn) (.ptr id 0 w.heap.size (G.set_m _ _ _))))

/-! ### a store into a box -/
def setsA : List AV → Nat → List AV → List AV
  | cs, _, [] => cs
  | cs, k, c :: r => setsA (cs.set k c) (k + 1) r
theorem run_stores {b : Nat} {t : TypeId} : ∀ (vs : List Value) (q i : Nat) (arr : Array Value) (w : World), w.heap[b]? = some (.cells arr t (0, 0)) → q + i + vs.length ≤ arr.size → (∀ v ∈ vs, v.oneCell' = true) →
    ∃ w' arr', (storeCells ⟨b, q, none⟩ vs i).run P w = .ok () w' ∧ w'.heap[b]? = some (.cells arr' t (0, 0)) ∧ Ext (fun x => x = b) w w' ∧ arr'.size = arr.size ∧
      ∀ j, arr'[j]? = if q + i ≤ j ∧ j < q + i + vs.length then vs[j - (q + i)]? else arr[j]?
  | [], q, i, arr, w, h, _, _ => ⟨w, arr, rfl, h, Ext.refl _ w, rfl, fun j => by rw [if_neg (by simp; try omega)]⟩
  | v :: vs, q, i, arr, w, h, hl, h1 => by
    have hv := h1 v List.mem_cons_self
    have hlt : q + i < arr.size := by simp at hl; omega
    have hcell : w.cell? ⟨b, q + i, none⟩ = some arr[q + i] := by rw [cell_of_row w b (q + i) arr t (0, 0) h]; exact Array.getElem?_eq_getElem hlt
    have hfr : w.frozen? ⟨b, q + i, none⟩ = false := by simp [World.frozen?, h]
    have hheap : (w.setCell ⟨b, q + i, none⟩ v).heap[b]? = some (.cells (arr.setIfInBounds (q + i) v) t (0, 0)) := by
      simp [World.setCell, Array.getElem?_modify, h]
    obtain ⟨w', arr', e1, e2, e3, e4, e5⟩ := run_stores vs q (i + 1) (arr.setIfInBounds (q + i) v) (w.setCell ⟨b, q + i, none⟩ v) hheap (by simp at hl ⊢; omega) (fun u hu => h1 u (List.mem_cons_of_mem _ hu))
    refine ⟨w', arr', ?_, e2, (Ext.setCell w ⟨b, q + i, none⟩ v).trans e3, by simpa using e4, fun j => ?_⟩
    · unfold storeCells
      simp only [Sem.run_bind, Addr.add_lit, run_store P w _ v .plain hv, hcell, hfr, Bool.false_eq_true, if_false, Result.andThen_ok]
      exact e1
    · rw [e5 j]
      simp only [List.length_cons]
      by_cases c1 : q + (i + 1) ≤ j ∧ j < q + (i + 1) + vs.length
      · rw [if_pos c1, if_pos (by omega)]
        rw [show j - (q + i) = (j - (q + (i + 1))) + 1 by omega, List.getElem?_cons_succ]
      · rw [if_neg c1]
        by_cases c2 : j = q + i
        · subst c2
          rw [if_pos (by omega), Array.getElem?_setIfInBounds_self_of_lt hlt]
          simp
        · rw [if_neg (by omega), Array.getElem?_setIfInBounds_ne (fun e => c2 e.symm)]
theorem setsA_len : ∀ (l cs : List AV) (k : Nat), (setsA cs k l).length = cs.length
  | [], _, _ => rfl
  | c :: r, cs, k => by unfold setsA; rw [setsA_len r]; simp
theorem setsA_get : ∀ (l cs : List AV) (k j : Nat), k + l.length ≤ cs.length → (setsA cs k l)[j]? = if k ≤ j ∧ j < k + l.length then l[j - k]? else cs[j]?
  | [], cs, k, j, _ => by rw [if_neg (by simp)]; rfl
  | c :: r, cs, k, j, h => by
    unfold setsA
    rw [setsA_get r (cs.set k c) (k + 1) j (by simp at h ⊢; omega)]
    simp only [List.length_cons] at h ⊢
    by_cases c1 : k + 1 ≤ j ∧ j < k + 1 + r.length
    · rw [if_pos c1, if_pos (by omega), show j - k = (j - (k + 1)) + 1 by omega, List.getElem?_cons_succ]
    · rw [if_neg c1]
      by_cases c2 : j = k
      · subst c2
        rw [if_pos (by omega), List.getElem?_set_self (by omega)]
        simp
      · rw [if_neg (by omega), List.getElem?_set_ne (fun e => c2 e.symm)]

theorem Rel.turnX {O : Org} {h : Hp} {G : Ctx} {id : Nat} {o o' : AObj} (hh : hget h id = some o) (hnm : names o' = names o) {b : Nat} (hx : XX O ((id, some o') :: h) G b) : XX O h G b := by
  rcases hx with hx | hx
  · exact .inl hx
  · obtain ⟨i, oo, h1, j, hj, hbb⟩ := hx
    rw [hget_cons] at h1
    by_cases e : id = i
    · subst e
      rw [if_pos rfl] at h1
      cases h1
      exact .inr ⟨id, o, hh, j, by rw [← hnm]; exact hj, hbb⟩
    · rw [if_neg e] at h1
      exact .inr ⟨i, oo, h1, j, hj, hbb⟩

/-- a store into a box -/
theorem LStep_store {t n id q : Nat} {x y : Operand} {cs vs : List AV} (ho : o.op = .store t x y) (hd : o.dst = none) (hn : T.size t = some n) (hx : evalA env x = .ptr id q) (hh : hget h id = some (.cells cs)) (hv : cellsA (evalA env y) = some vs)
    (hl : vs.length = n) (hfit : q + n ≤ cs.length) : LStep P O o env h [id] [] (.tup []) [(id, some (.cells (setsA cs q vs)))] := by
  intro env' h' he ht _ a w G r K Q hK
  have h1 := evalA_rep r.env x
  have h2 := evalA_rep r.env y
  rw [he x (by simp [ho, Op.operands]), hx] at h1
  rw [he y (by simp [ho, Op.operands])] at h2
  obtain ⟨hs, hcc⟩ := cellsA_rep hv h2
  have hh' := (ht id (by simp)).trans hh
  obtain ⟨b, arr, ty, e1, e2, e3, e4⟩ := r.obj id _ hh'
  generalize hvv : a.eval x = v at h1
  cases h1 with
  | ptr _ _ b' hb =>
    obtain rfl : b = b' := by rw [e1] at hb; injection hb with hb; injection hb with hb; injection hb
    have hlen : (a.eval y).cells.toList.length = n := by rw [Array.length_toList, hs, hl]
    obtain ⟨w', arr', f1, f2, f3, f4, f5⟩ := run_stores (P := P) (a.eval y).cells.toList q 0 arr w e2 (by omega) (fun u hu => by
      obtain ⟨i, hi, e⟩ := List.getElem_of_mem hu
      have hi' : i < vs.length := by rw [Array.length_toList, hs] at hi; exact hi
      exact (hcc i vs[i] u (List.getElem?_eq_getElem hi') (by rw [← Array.getElem?_toList, List.getElem?_eq_getElem hi, e])).2)
    have hrun : (execOp a.eval o).run P w = .ok .skip w' := by
      have hsz : (a.eval y).cells.size = n := by rw [hs, hl]
      simp [execOp, ho, hvv, Instr.storeAt, Instr.sureAddr, storeVar, run_size T hn, hsz, f1]
    have hown : XX O h' G b := .inr ⟨id, _, hh', id, List.mem_cons_self, by rw [e1]; rfl⟩
    have hX : ∀ c, c < w.heap.size → XX O ((id, some (.cells (setsA cs q vs))) :: h') G c → XX O h' G c := fun c _ hc => Rel.turnX (o' := .cells (setsA cs q vs)) hh' rfl hc
    have hr : ∀ {z : AV} {u : Value}, Rep w (XX O h' G) G z u → Rep w' (XX O ((id, some (.cells (setsA cs q vs))) :: h') G) G z u :=
      fun hz => hz.ext f3 (fun c _ hc => by subst hc; exact hown) hX (GStep.refl G)
    refine wp_skipped hrun (hK undef w' G ?_)
    rw [hd]
    refine r.turn hh' f3 (fun c _ hc => ⟨id, List.mem_cons_self, by subst hc; rw [e1]; rfl⟩) (GStep.refl G) (fun _ _ => ⟨rfl, rfl⟩) (fun _ => rfl) rfl (fun _ h _ => h) ?_ (fun _ h => .inr h) (by simp [names])
    refine ⟨b, arr', ty, e1, f2, by rw [f4, e3, setsA_len], fun i c u hi hu => ?_⟩
    rw [setsA_get vs cs q i (by omega)] at hi
    rw [f5 i] at hu
    by_cases ci : q ≤ i ∧ i < q + vs.length
    · rw [if_pos ci] at hi
      rw [if_pos (by rw [Array.length_toList, hs]; omega)] at hu
      rw [Nat.add_zero, Array.getElem?_toList] at hu
      exact ⟨hr (hcc _ c u hi hu).1, (hcc _ c u hi hu).2⟩
    · rw [if_neg ci] at hi
      rw [if_neg (by rw [Array.length_toList, hs]; omega)] at hu
      exact ⟨hr (e4 i c u hi hu).1, (e4 i c u hi hu).2⟩

/-! ### a struct is built -/
def fillA (fs : List (Nat × Nat)) : List AV → List (Nat × AV) → Option (List AV)
  | cs, [] => some cs
  | cs, (i, v) :: rest => match fs[i]? with
    | some (off, n) => match cellsA v with
      | some vs => if vs.length = n ∧ off + n ≤ cs.length then fillA fs (setsA cs off vs) rest else none
      | none => none
    | none => none
def CellsRep (w : World) (X : Nat → Prop) (G : Ctx) (cs : List AV) (vs : Array Value) : Prop :=
  vs.size = cs.length ∧ ∀ (i : Nat) (c : AV) (v : Value), cs[i]? = some c → vs[i]? = some v → Rep w X G c v ∧ v.oneCell' = true
theorem foldSet {off : Nat} : ∀ (l : List Value) (k : Nat) (vs : Array Value), ((l.zipIdx k).foldl (fun cs (p : Value × Nat) => cs.setIfInBounds (off + p.2) p.1) vs).size = vs.size ∧
    ∀ j, off + k + l.length ≤ vs.size → ((l.zipIdx k).foldl (fun cs (p : Value × Nat) => cs.setIfInBounds (off + p.2) p.1) vs)[j]? = if off + k ≤ j ∧ j < off + k + l.length then l[j - (off + k)]? else vs[j]?
  | [], k, vs => ⟨rfl, fun j _ => by rw [if_neg (by simp)]; rfl⟩
  | v :: l, k, vs => by
    obtain ⟨h1, h2⟩ := foldSet (off := off) l (k + 1) (vs.setIfInBounds (off + k) v)
    refine ⟨by simpa using h1, fun j hl => ?_⟩
    simp only [List.length_cons] at hl
    have := h2 j (by simp; omega)
    simp only [List.zipIdx_cons, List.foldl_cons, List.length_cons]
    rw [this]
    by_cases c1 : off + (k + 1) ≤ j ∧ j < off + (k + 1) + l.length
    · rw [if_pos c1, if_pos (by omega), show j - (off + k) = (j - (off + (k + 1))) + 1 by omega, List.getElem?_cons_succ]
    · rw [if_neg c1]
      by_cases c2 : j = off + k
      · subst c2
        rw [if_pos (by omega), Array.getElem?_setIfInBounds_self_of_lt (by omega)]
        simp
      · rw [if_neg (by omega), Array.getElem?_setIfInBounds_ne (fun e => c2 e.symm)]
theorem fill_rep {w : World} {X : Nat → Prop} {G : Ctx} {fs : List (Nat × Nat)} {place : Nat → Option (Nat × Nat)} (hp : ∀ i p, fs[i]? = some p → place i = some p) : ∀ (parts : List (Nat × AV)) (vparts : List (Nat × Value)) (cs out : List AV) (vs : Array Value),
    fillA fs cs parts = some out → CellsRep w X G cs vs → vparts.length = parts.length → (∀ (k : Nat) (p : Nat × AV) (q : Nat × Value), parts[k]? = some p → vparts[k]? = some q → q.1 = p.1 ∧ Rep w X G p.2 q.2) →
    ∃ vout, Instr.fill place vs vparts = some vout ∧ CellsRep w X G out vout
  | [], vparts, cs, out, vs, h, hc, hl, _ => by
    have : vparts = [] := List.eq_nil_of_length_eq_zero hl
    subst this
    cases h
    exact ⟨vs, rfl, hc⟩
  | (i, x) :: parts, vparts, cs, out, vs, h, hc, hl, hq => by
    match vparts, hl with
    | (i', v) :: vparts, hl =>
      obtain ⟨e1, e2⟩ := hq 0 _ _ rfl rfl
      simp only at e1 e2
      subst e1
      unfold fillA at h
      cases hfs : fs[i']? with
      | none => rw [hfs] at h; cases h
      | some p =>
        obtain ⟨off, n⟩ := p
        rw [hfs] at h
        simp only at h
        cases hx : cellsA x with
        | none => rw [hx] at h; cases h
        | some xs =>
          rw [hx] at h
          simp only at h
          split at h
          · rename_i hfit
            obtain ⟨hs, hcc⟩ := cellsA_rep hx e2
            obtain ⟨g1, g2⟩ := foldSet (off := off) v.cells.toList 0 vs
            have hc' : CellsRep w X G (setsA cs off xs) ((v.cells.toList.zipIdx 0).foldl (fun cs (p : Value × Nat) => cs.setIfInBounds (off + p.2) p.1) vs) := by
              refine ⟨by rw [g1, hc.1, setsA_len], fun j c u hj hu => ?_⟩
              rw [setsA_get xs cs off j (by omega)] at hj
              rw [g2 j (by rw [Array.length_toList, hs, hc.1]; omega), Array.length_toList, hs] at hu
              by_cases cj : off ≤ j ∧ j < off + xs.length
              · rw [if_pos cj] at hj
                rw [if_pos (by omega), Nat.add_zero, Array.getElem?_toList] at hu
                exact hcc _ c u hj hu
              · rw [if_neg cj] at hj
                rw [if_neg (by omega)] at hu
                exact hc.2 j c u hj hu
            obtain ⟨vout, f1, f2⟩ := fill_rep hp parts vparts _ out _ h hc' (by simpa using hl) (fun k p q hp' hq' => hq (k + 1) p q (by simpa using hp') (by simpa using hq'))
            refine ⟨vout, ?_, f2⟩
            unfold Instr.fill
            rw [hp i' _ hfs]
            simp only
            rw [if_neg (by rw [hs, hc.1, hfit.1]; simp; omega)]
            rw [← Array.foldl_toList, Array.toList_zipIdx]
            exact f1
          · cases h
/-- the struct's places -/
def placesOf (T : Tab P) : List (Nat × Nat) → Option (List (Nat × Nat))
  | [] => some []
  | (off, ft) :: r => match T.size ft with
    | some n => match placesOf T r with
      | some l => some ((off, n) :: l)
      | none => none
    | none => none
theorem run_places {w : World} : ∀ (fs : List Field) (pl : List (Nat × Nat)), placesOf T (fs.map fun f => (f.offset, f.type)) = some pl → (fs.mapM (m := Sem) fun f => do pure (f.offset, ← sizeOf f.type)).run P w = .ok pl w
  | [], pl, h => by cases h; rfl
  | f :: fs, pl, h => by
    simp only [List.map_cons, placesOf] at h
    cases hn : T.size f.type with
    | none => rw [hn] at h; cases h
    | some n =>
      rw [hn] at h
      simp only at h
      cases hp : placesOf T (fs.map fun f => (f.offset, f.type)) with
      | none => rw [hp] at h; cases h
      | some l =>
        rw [hp] at h
        cases h
        simp only [List.mapM_cons, Sem.run_bind, run_size T hn, Result.andThen_ok, Sem.run_pure, run_places fs l hp]
theorem LStep_build {t : Nat} {parts : Array (Nat × Operand)} {l pl : List (Nat × Nat)} {zs out : List AV} (ho : o.op = .build t parts) (hT : T.desc t = some (.struct l)) (hpl : placesOf T l = some pl) (hz : T.zeroC t = some zs)
    (hf : fillA pl zs (parts.toList.map fun p => (p.1, evalA env p.2)) = some out) (hd : dstOk o.dst O.nt = true) : LStep P O o env h [] [] (.agg out) [] := by
  refine .quiet hd (fun env' h' he _ a w G r => ?_)
  obtain ⟨fs, h1, h2⟩ := T.desc_ok hT
  obtain ⟨z, hz1, hz2, hz3⟩ := zeroC_run hz w
  have hzr : CellsRep w (XX O h' G) G zs z.cells := by
    refine ⟨by rw [← hz2]; simp, fun i c v hi hv => ?_⟩
    rw [← hz2] at hi
    simp only [List.getElem?_map, Array.getElem?_toList, hv, Option.map_some, Option.some.injEq] at hi
    subst hi
    have := hz3 v (List.mem_of_getElem? (by rw [Array.getElem?_toList]; exact hv))
    exact ⟨.d _ _ (.sc _ this), this⟩
  obtain ⟨vout, f1, f2⟩ := fill_rep (w := w) (X := XX O h' G) (G := G) (fs := pl) (place := fun i => pl.toArray[i]?) (fun i p hp => by simpa using hp) (parts.toList.map fun p => (p.1, evalA env p.2)) (parts.toList.map fun p => (p.1, a.eval p.2)) zs out z.cells hf hzr (by simp) (fun k p q hp hq => by
    simp only [List.getElem?_map, Option.map_eq_some_iff] at hp hq
    obtain ⟨p0, hp0, rfl⟩ := hp
    obtain ⟨q0, hq0, rfl⟩ := hq
    rw [hp0] at hq0
    cases hq0
    refine ⟨rfl, ?_⟩
    have := evalA_rep r.env p0.2
    rwa [he p0.2 (by
      have := List.mem_of_getElem? hp0
      simp only [ho, Op.operands]
      exact List.mem_map.2 ⟨p0, this, rfl⟩)] at this)
  refine ⟨.agg vout, ?_, .agg _ _ f2.1 (fun i c v hi hv => (f2.2 i c v hi hv).1) (fun i v hv => ?_)⟩
  · have hm : (fs.mapM (m := Sem) fun f => do pure (f.offset, ← sizeOf f.type)).run P w = .ok pl.toArray w := by
      have := run_places (P := P) (T := T) (w := w) fs.toList pl (by rw [h2]; exact hpl)
      have e : fs.mapM (m := Sem) (fun f => do pure (f.offset, ← sizeOf f.type)) = List.toArray <$> fs.toList.mapM (m := Sem) (fun f => do pure (f.offset, ← sizeOf f.type)) := by
        rw [← List.mapM_toArray]
      rw [e]
      simp only [Sem.run_map, this, Result.andThen_ok]
    have hparts : (parts.map fun x => (x.1, a.eval x.2)).toList = parts.toList.map fun p => (p.1, a.eval p.2) := by simp
    simp only [execOp, ho, Instr.build, Sem.run_bind, hz1, Result.andThen_ok, run_underlying h1, hm, hparts, f1, Sem.run_pure]
  · have hlt : i < out.length := by rw [← f2.1]; exact (Array.getElem?_eq_some_iff.1 hv).1
    exact (f2.2 i out[i] v (List.getElem?_eq_getElem hlt) hv).2
end
end Go.SL
