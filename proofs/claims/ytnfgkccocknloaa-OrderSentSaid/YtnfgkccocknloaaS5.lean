/- The layer 'SL': operations that make or turn objects. -/
import Derived.Test.YtnfgkccocknloaaS4
namespace Go.SL
open Go.RowKit

theorem heap_lt {w : World} {b : Nat} {o : Obj} (h : w.heap[b]? = some o) : b < w.heap.size := (Array.getElem?_eq_some_iff.1 h).1

theorem ObjRep.lt {w : World} {X : Nat → Prop} {G : Ctx} {id : Nat} {o : AObj} (h : ObjRep w X G id o) {j b : Nat} (hj : j ∈ id :: names o) (hb : blk (G.m j) = some b) : b < w.heap.size := by
  cases o with
  | cells cs =>
    obtain ⟨b', arr, ty, h1, h2, _⟩ := h
    have : j = id := by simpa [names] using hj
    subst this
    rw [h1] at hb
    cases hb
    exact heap_lt h2
  | arr ety sz es =>
    obtain ⟨_, _, _, xs, hown, _⟩ := h
    have : j = id := by simpa [names] using hj
    subst this
    refine (hown.lt b ?_).2
    cases hv : G.m j with
    | slice A n c =>
      rw [hv] at hb
      cases A with
      | none => cases hb
      | some a => exact hb
    | _ =>
      rcases hown.2 with ⟨e, _⟩ | ⟨g, cap, cur, e, _⟩ <;> rw [hv] at e <;> cases e
  | map kt et es it =>
    obtain ⟨b', ents, clock, h1, h2, _, _, _, _, h6⟩ := h
    rcases List.mem_cons.1 hj with e | e
    · subst e
      rw [h1] at hb
      cases hb
      exact heap_lt h2
    · cases it with
      | none => cases e
      | some p =>
        obtain ⟨i, todo⟩ := p
        obtain ⟨ib, stamps, e1, e2, _⟩ := h6
        have : j = i := by simpa [names] using e
        subst this
        rw [e1] at hb
        cases hb
        exact heap_lt e2

/-- An object stays, where only other blocks turn. -/
theorem ObjRep.ext {w w' : World} {X X' C : Nat → Prop} {G G' : Ctx} {id : Nat} {o : AObj} (h : ObjRep w X G id o) (he : Ext C w w') (hC : ∀ b, b < w.heap.size → C b → X b)
    (hX : ∀ b, b < w.heap.size → X' b → X b) (hG : ∀ {x : AV} {v : Value}, Rep w X G x v → Rep w' X' G' x v) (hm : ∀ j, j ∈ id :: names o → G'.m j = G.m j ∧ G'.len j = G.len j)
    (hn : ∀ j b, j ∈ id :: names o → blk (G.m j) = some b → ¬ C b) : ObjRep w' X' G' id o := by
  have hm0 := hm id List.mem_cons_self
  cases o with
  | cells cs =>
    obtain ⟨b, arr, ty, h1, h2, h3, h4⟩ := h
    exact ⟨b, arr, ty, hm0.1.trans h1, (he.block b (heap_lt h2) (hn id b List.mem_cons_self (by rw [h1]; rfl))).trans h2, h3, fun i c v hc hv => ⟨hG (h4 i c v hc hv).1, (h4 i c v hc hv).2⟩⟩
  | arr ety sz es =>
    obtain ⟨h1, h2, h3, xs, h4, h5⟩ := h
    refine ⟨hm0.2.trans h1, by rw [hm0.1]; exact h2, h3, xs, ?_, fun i e hi j x hj => let ⟨v, e1, e2⟩ := h5 i e hi j x hj; ⟨v, e1, e2.ext he hC hX⟩⟩
    rw [hm0.1]
    refine ⟨h4.1, ?_⟩
    rcases h4.2 with e | ⟨g, cap, cur, e1, e2, e3, e4⟩
    · exact .inl e
    · exact .inr ⟨g, cap, cur, e1, e2, (he.block g (heap_lt e3) (hn id g List.mem_cons_self (by rw [e1]; rfl))).trans e3, e4⟩
  | map kt et es it =>
    obtain ⟨b, ents, clock, h1, h2, h3, h4, h5, h6, h7⟩ := h
    refine ⟨b, ents, clock, hm0.1.trans h1, (he.block b (heap_lt h2) (hn id b List.mem_cons_self (by rw [h1]; rfl))).trans h2, h3, fun i k c e hi hj => ⟨(h4 i k c e hi hj).1, hG (h4 i k c e hi hj).2.1, (h4 i k c e hi hj).2.2⟩, h5, h6, ?_⟩
    cases it with
    | none => trivial
    | some p =>
      obtain ⟨i, todo⟩ := p
      obtain ⟨ib, stamps, e1, e2, e3⟩ := h7
      have hmi := hm i (by simp [names])
      exact ⟨ib, stamps, hmi.1.trans e1, (he.block ib (heap_lt e2) (hn i ib (by simp [names]) (by rw [e1]; rfl))).trans e2, e3⟩

theorem freshO_rep {w : World} {X : Nat → Prop} {G : Ctx} {id : Nat} {i : Nat} {o : AObj} (mv : Value) (n : Nat) (hf : freshO id o = true) (hi : i ≠ id) (h : ObjRep w X G i o) : ObjRep w X (G.set id mv n) i o := by
  cases o with
  | cells cs =>
    obtain ⟨b, arr, ty, h1, h2, h3, h4⟩ := h
    unfold freshO at hf
    exact ⟨b, arr, ty, (G.set_m_ne _ _ hi).trans h1, h2, h3, fun i c v hc hv => ⟨(h4 i c v hc hv).1.setFresh mv n (freshL_mem hf hc), (h4 i c v hc hv).2⟩⟩
  | arr ety sz es =>
    obtain ⟨h1, h2, h3, h4⟩ := h
    refine ⟨(G.set_len_ne _ _ hi).trans h1, by rw [G.set_m_ne _ _ hi]; exact h2, h3, by rw [G.set_m_ne _ _ hi]; exact h4⟩
  | map kt et es it =>
    obtain ⟨b, ents, clock, h1, h2, h3, h4, h5, h6, h7⟩ := h
    refine ⟨b, ents, clock, (G.set_m_ne _ _ hi).trans h1, h2, h3, fun i k c e hi hj => ⟨(h4 i k c e hi hj).1, (h4 i k c e hi hj).2.1.noid _ (h4 i k c e hi hj).2.2, (h4 i k c e hi hj).2.2⟩, h5, h6, ?_⟩
    cases it with
    | none => trivial
    | some p =>
      obtain ⟨j, todo⟩ := p
      obtain ⟨ib, stamps, e1, e2⟩ := h7
      exact ⟨ib, stamps, (G.set_m_ne _ _ (beq_ne hf)).trans e1, e2⟩

theorem names_ne {id j : Nat} {o : AObj} (hf : freshO id o = true) (hj : j ∈ names o) : j ≠ id := by
  cases o with
  | map kt et es it =>
    cases it with
    | none => cases hj
    | some p =>
      obtain ⟨i, todo⟩ := p
      have : j = i := by simpa [names] using hj
      subst this
      exact beq_ne hf
  | _ => cases hj

theorem Own_cons {h : Hp} {id : Nat} {o : AObj} {G G' : Ctx} {b : Nat} (ho : Own ((id, some o) :: h) G' b) (hm : ∀ i o', hget h i = some o' → i ≠ id → ∀ j ∈ i :: names o', G'.m j = G.m j) :
    (∃ j, j ∈ id :: names o ∧ blk (G'.m j) = some b) ∨ Own h G b := by
  obtain ⟨i, o', h1, j, hj, hb⟩ := ho
  rw [hget_cons] at h1
  by_cases e : id = i
  · subst e
    rw [if_pos rfl] at h1
    cases h1
    exact .inl ⟨j, hj, hb⟩
  · rw [if_neg e] at h1
    exact .inr ⟨i, o', h1, j, hj, by rw [← hm i o' h1 (fun x => e x.symm) j hj]; exact hb⟩

/-- A new object under a new name. -/
theorem Rel.newG {O : Org} {env : Env} {h : Hp} {a : Act} {w w' : World} {G : Ctx} (r : Rel O env h a w G) (he : Ext (fun _ => False) w w') {id : Nat} {mv : Value} {n : Nat} {o : AObj} (hf : freshAt id env h) (hid : id ∉ O.ids) (hn : names o = [])
    (hmv : ∀ b, blk mv = some b → w.heap.size ≤ b) (ho : ObjRep w' (XX O ((id, some o) :: h) (G.set id mv n)) (G.set id mv n) id o) :
    Rel O env ((id, some o) :: h) a w' (G.set id mv n) := by
  obtain ⟨hf1, hf2, hf3⟩ := hf
  have hne : ∀ i o', hget h i = some o' → i ≠ id := fun i o' h1 e => by subst e; rw [hf3] at h1; cases h1
  have hmj : ∀ i o', hget h i = some o' → i ≠ id → ∀ j ∈ i :: names o', (G.set id mv n).m j = G.m j := fun i o' h1 hi j hj => by
    rcases List.mem_cons.1 hj with e | e
    · subst e; exact G.set_m_ne _ _ hi
    · exact G.set_m_ne _ _ (names_ne (hf2 i o' h1) e)
  have hlenj : ∀ i o', hget h i = some o' → ∀ j ∈ i :: names o', (G.set id mv n).len j = G.len j := fun i o' h1 j hj => by
    rcases List.mem_cons.1 hj with e | e
    · subst e; exact G.set_len_ne _ _ (hne _ o' h1)
    · exact G.set_len_ne _ _ (names_ne (hf2 i o' h1) e)
  have hX : ∀ b, b < w.heap.size → XX O ((id, some o) :: h) (G.set id mv n) b → XX O h G b := by
    intro b hb hx
    rcases hx with hx | hx
    · exact .inl hx
    · rcases Own_cons hx hmj with ⟨j, hj, e⟩ | e
      · have : j = id := by simpa [hn] using hj
        subst this
        rw [G.set_m] at e
        have := hmv b e
        omega
      · exact .inr e
  have hrep : ∀ {x : AV} {v : Value}, fresh id x = true → Rep w (XX O h G) G x v → Rep w' (XX O ((id, some o) :: h) (G.set id mv n)) (G.set id mv n) x v :=
    fun hx hr => (hr.setFresh mv n hx).ext he (fun _ _ h => h.elim) hX (GStep.refl _)
  refine ⟨r.size, r.dfr, fun t => hrep (hf1 t) (r.env t), fun i o' h1 => ?_, fun i o1 j i' o2 j' b h1 hj h2 hj' e1 e2 => ?_, ?_, fun b hb hlt => ?_, r.xlt, fun i hi => ?_⟩
  · rw [hget_cons] at h1
    by_cases e : id = i
    · subst e
      rw [if_pos rfl] at h1
      cases h1
      exact ho
    · rw [if_neg e] at h1
      have h2 := freshO_rep mv n (hf2 i o' h1) (fun x => e x.symm) (r.obj i o' h1)
      exact h2.ext he (fun _ _ h => h.elim) hX (fun hr => hr.ext he (fun _ _ h => h.elim) hX (GStep.refl _)) (fun _ _ => ⟨rfl, rfl⟩) (fun _ _ _ _ h => h)
  · have old : ∀ k ok jk, hget h k = some ok → jk ∈ k :: names ok → blk ((G.set id mv n).m jk) = some b → b < w.heap.size := fun k ok jk hk hjk e => by
      rw [hmj k ok hk (hne k ok hk) jk hjk] at e
      exact (r.obj k ok hk).lt hjk e
    rw [hget_cons] at h1 h2
    by_cases ei : id = i
    · subst ei
      rw [if_pos rfl] at h1
      cases h1
      have hj0 : j = id := by simpa [hn] using hj
      subst hj0
      rw [G.set_m] at e1
      have hb := hmv b e1
      by_cases ei' : j = i'
      · subst ei'
        rw [if_pos rfl] at h2
        cases h2
        have : j' = j := by simpa [hn] using hj'
        exact ⟨rfl, this.symm⟩
      · rw [if_neg ei'] at h2
        have := old i' o2 j' h2 hj' e2
        omega
    · rw [if_neg ei] at h1
      by_cases ei' : id = i'
      · subst ei'
        rw [if_pos rfl] at h2
        cases h2
        have hj0 : j' = id := by simpa [hn] using hj'
        subst hj0
        rw [G.set_m] at e2
        have hb := hmv b e2
        have := old i o1 j h1 hj e1
        omega
      · rw [if_neg ei'] at h2
        rw [hmj i o1 h1 (hne i o1 h1) j hj] at e1
        rw [hmj i' o2 h2 (hne i' o2 h2) j' hj'] at e2
        exact r.dist i o1 j i' o2 j' b h1 hj h2 hj' e1 e2
  · exact r.ext.transNew he (fun _ _ h => h.elim)
  · rcases Own_cons hb hmj with ⟨j, hj, e⟩ | e
    · have : j = id := by simpa [hn] using hj
      subst this
      rw [G.set_m] at e
      have h1 := hmv b e
      have h2 := r.ext.size
      omega
    · exact r.own b e hlt
  · rw [G.set_m_ne _ _ (fun e => by subst e; exact hid hi)]
    exact r.ids i hi

theorem Rel.new {O : Org} {env : Env} {h : Hp} {a : Act} {w : World} {G : Ctx} (r : Rel O env h a w G) {id : Nat} {mv : Value} {n : Nat} {ob : Obj} {o : AObj} (hf : freshAt id env h) (hid : id ∉ O.ids) (hn : names o = [])
    (hmv : ∀ b, blk mv = some b → b = w.heap.size) (ho : ObjRep (w.alloc ob) (XX O ((id, some o) :: h) (G.set id mv n)) (G.set id mv n) id o) :
    Rel O env ((id, some o) :: h) a (w.alloc ob) (G.set id mv n) :=
  r.newG (Ext.alloc _ w ob) hf hid hn (fun b hb => Nat.le_of_eq (hmv b hb).symm) ho

/-- One owned object turns: its own blocks alone; its names keep their places, or it is an owned array that has grown. -/
theorem Rel.turn {O : Org} {env : Env} {h : Hp} {a : Act} {w w' : World} {G G' : Ctx} (r : Rel O env h a w G) {id : Nat} {o o' : AObj} {C : Nat → Prop} (hh : hget h id = some o) (he : Ext C w w')
    (hC : ∀ b, b < w.heap.size → C b → ∃ j, j ∈ id :: names o ∧ blk (G.m j) = some b) (hG : GStep G G') (hGo : ∀ j, j ≠ id → G'.m j = G.m j ∧ G'.len j = G.len j)
    (hids : id ∈ O.ids → G'.m id = G.m id) (hnm : names o' = names o) (hb : ∀ b, blk (G'.m id) = some b → b < w.heap.size → blk (G.m id) = some b)
    (ho : ObjRep w' (XX O ((id, some o') :: h) G') G' id o') (hnew : ∀ b, blk (G'.m id) = some b → w.heap.size ≤ b ∨ blk (G.m id) = some b) (hnn : id ∉ names o) : Rel O env ((id, some o') :: h) a w' G' := by
  have hCX : ∀ b, b < w.heap.size → C b → XX O h G b := fun b hlt hc => let ⟨j, h1, h2⟩ := hC b hlt hc; .inr ⟨id, o, hh, j, h1, h2⟩
  have hOwn : ∀ b, Own ((id, some o') :: h) G' b → Own h G b ∨ w.heap.size ≤ b := by
    intro b hx
    obtain ⟨i, oo, h1, j, hj, hbb⟩ := hx
    rw [hget_cons] at h1
    by_cases e : id = i
    · subst e
      rw [if_pos rfl] at h1
      cases h1
      by_cases ej : j = id
      · subst ej
        rcases hnew b hbb with h2 | h2
        · exact .inr h2
        · exact .inl ⟨j, o, hh, j, List.mem_cons_self, h2⟩
      · rw [(hGo j ej).1] at hbb
        rw [hnm] at hj
        exact .inl ⟨id, o, hh, j, hj, hbb⟩
    · rw [if_neg e] at h1
      by_cases ej : j = id
      · subst ej
        rcases hnew b hbb with h2 | h2
        · exact .inr h2
        · exact .inl ⟨i, oo, h1, j, hj, h2⟩
      · rw [(hGo j ej).1] at hbb
        exact .inl ⟨i, oo, h1, j, hj, hbb⟩
  have hX : ∀ b, b < w.heap.size → XX O ((id, some o') :: h) G' b → XX O h G b := by
    intro b hlt hx
    rcases hx with hx | hx
    · exact .inl hx
    · rcases hOwn b hx with h2 | h2
      · exact .inr h2
      · omega
  have hrep : ∀ {x : AV} {v : Value}, Rep w (XX O h G) G x v → Rep w' (XX O ((id, some o') :: h) G') G' x v := fun hr => hr.ext he hCX hX hG
  have hblk : ∀ j b, (∃ i oo, hget h i = some oo ∧ j ∈ i :: names oo) → blk (G'.m j) = some b → b < w.heap.size → blk (G.m j) = some b := fun j b _ h1 h2 => by
    by_cases ej : j = id
    · subst ej; exact hb b h1 h2
    · rw [(hGo j ej).1] at h1; exact h1
  refine ⟨r.size, r.dfr, fun t => hrep (r.env t), fun i oo h1 => ?_, fun i o1 j i' o2 j' b h1 hj h2 hj' e1 e2 => ?_, ?_, fun b hb' hlt => ?_, r.xlt, fun i hi => ?_⟩
  · rw [hget_cons] at h1
    by_cases e : id = i
    · subst e
      rw [if_pos rfl] at h1
      cases h1
      exact ho
    · rw [if_neg e] at h1
      have hjne : ∀ j, j ∈ i :: names oo → j ≠ id := by
        intro j hj ej
        subst ej
        -- the name of an object is no iterator of another one: its block would be both
        rcases List.mem_cons.1 hj with e2 | e2
        · exact e e2
        · have hr := r.obj i oo h1
          cases oo with
          | map kt et es it =>
            cases it with
            | none => cases e2
            | some p =>
              obtain ⟨k, todo⟩ := p
              have ek : j = k := by simpa [names] using e2
              subst ek
              obtain ⟨_, _, _, _, _, _, _, _, _, ib, stamps, f1, _⟩ := hr
              have := r.dist j o j i _ j ib hh List.mem_cons_self h1 hj (by rw [f1]; rfl) (by rw [f1]; rfl)
              exact e this.1
          | _ => cases e2
      refine (r.obj i oo h1).ext he hCX hX hrep (fun j hj => hGo j (hjne j hj)) (fun j b hj hbb hc => ?_)
      have hlt := (r.obj i oo h1).lt hj hbb
      obtain ⟨k, hk1, hk2⟩ := hC b hlt hc
      exact e (r.dist i oo j id o k b h1 hj hh hk1 hbb hk2).1.symm
  · have conv : ∀ k ok jk, hget ((id, some o') :: h) k = some ok → jk ∈ k :: names ok → ∃ ok', hget h k = some ok' ∧ jk ∈ k :: names ok' := by
      intro k ok jk hk hjk
      rw [hget_cons] at hk
      by_cases ek : id = k
      · subst ek
        rw [if_pos rfl] at hk
        cases hk
        exact ⟨o, hh, by rw [← hnm]; exact hjk⟩
      · rw [if_neg ek] at hk
        exact ⟨ok, hk, hjk⟩
    obtain ⟨o1', g1, g2⟩ := conv i o1 j h1 hj
    obtain ⟨o2', g3, g4⟩ := conv i' o2 j' h2 hj'
    by_cases hlt : b < w.heap.size
    · exact r.dist i o1' j i' o2' j' b g1 g2 g3 g4 (hblk j b ⟨i, o1', g1, g2⟩ e1 hlt) (hblk j' b ⟨i', o2', g3, g4⟩ e2 hlt)
    · -- the block is new: it is that of 'id'
      have isid : ∀ jk, (∃ k ok, hget h k = some ok ∧ jk ∈ k :: names ok) → blk (G'.m jk) = some b → jk = id := by
        intro jk ⟨k, ok, hk, hjk⟩ eb
        by_cases ej : jk = id
        · exact ej
        · rw [(hGo jk ej).1] at eb
          exact absurd ((r.obj k ok hk).lt hjk eb) hlt
      have ej := isid j ⟨i, o1', g1, g2⟩ e1
      have ej' := isid j' ⟨i', o2', g3, g4⟩ e2
      subst ej
      have top : ∀ k ok, hget h k = some ok → j ∈ k :: names ok → k = j := by
        intro k ok hk hjk
        rcases List.mem_cons.1 hjk with e3 | e3
        · exact e3.symm
        · have hr := r.obj k ok hk
          cases ok with
          | map kt et es it =>
            cases it with
            | none => cases e3
            | some p =>
              obtain ⟨q, todo⟩ := p
              have ek : j = q := by simpa [names] using e3
              subst ek
              obtain ⟨_, _, _, _, _, _, _, _, _, ib, stamps, f1, _⟩ := hr
              exact (r.dist k _ j j o j ib hk hjk hh List.mem_cons_self (by rw [f1]; rfl) (by rw [f1]; rfl)).1
          | _ => cases e3
      have t1 := top i o1' g1 g2
      have t2 := top i' o2' g3 (ej' ▸ g4)
      exact ⟨t1.trans t2.symm, ej'.symm⟩
  · refine r.ext.transNew he (fun b hlt hc => ?_)
    obtain ⟨j, hj, hbb⟩ := hC b (Nat.lt_of_lt_of_le hlt r.ext.size) hc
    exact r.own b ⟨id, o, hh, j, hj, hbb⟩ hlt
  · rcases hOwn b hb' with h2 | h2
    · exact r.own b h2 hlt
    · have := r.ext.size
      omega
  · by_cases ei : i = id
    · subst ei; rw [hids hi]; exact r.ids i hi
    · rw [(hGo i ei).1]; exact r.ids i hi
end Go.SL
