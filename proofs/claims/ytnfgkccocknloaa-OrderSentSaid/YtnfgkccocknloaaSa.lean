/- The layer 'SL': calls that are handed objects. -/
import Derived.Test.YtnfgkccocknloaaS9
namespace Go.SL
open Go.RowKit

/-- other names -/
def ren (f : Nat → Nat) : AV → AV
  | .any => .any
  | .d x => .d x
  | .agg cs => .agg (renL f cs)
  | .tup cs => .tup (renL f cs)
  | .ptr i o => .ptr (f i) o
  | .ro cs => .ro cs
  | .roa cs => .roa (renL f cs)
  | .sla n es => .sla n (renLL f es)
  | .own i n => .own (f i) n
  | .eptr i n s k o => .eptr (f i) n s k o
  | .mp i => .mp (f i)
  | .it i => .it (f i)
  | .fn g cs => .fn g (renL f cs)
where
  renL (f : Nat → Nat) : List AV → List AV
    | [] => []
    | c :: r => ren f c :: renL f r
  renLL (f : Nat → Nat) : List (List AV) → List (List AV)
    | [] => []
    | c :: r => renL f c :: renLL f r
def renO (f : Nat → Nat) : AObj → AObj
  | .cells cs => .cells (ren.renL f cs)
  | .arr e s es => .arr e s es
  | .map kt et es it => .map kt et es (match it with | some (i, l) => some (f i, l) | none => none)

theorem renL_map (f : Nat → Nat) : ∀ cs, ren.renL f cs = cs.map (ren f)
  | [] => rfl
  | c :: r => by rw [ren.renL, renL_map f r]; rfl
theorem renLL_map (f : Nat → Nat) : ∀ cs, ren.renLL f cs = cs.map (List.map (ren f))
  | [] => rfl
  | c :: r => by rw [ren.renLL, renLL_map f r, renL_map]; rfl
theorem ren_id : ∀ x, ren (fun i => i) x = x
  | .any | .d _ | .ro _ | .ptr _ _ | .own _ _ | .eptr _ _ _ _ _ | .mp _ | .it _ => rfl
  | .agg cs => congrArg AV.agg (renL_id cs)
  | .tup cs => congrArg AV.tup (renL_id cs)
  | .roa cs => congrArg AV.roa (renL_id cs)
  | .fn _ cs => congrArg (AV.fn _) (renL_id cs)
  | .sla _ es => congrArg (AV.sla _) (renLL_id es)
where
  renL_id : ∀ cs, ren.renL (fun i => i) cs = cs
    | [] => rfl
    | c :: r => by rw [ren.renL, ren_id c, renL_id r]
  renLL_id : ∀ cs, ren.renLL (fun i => i) cs = cs
    | [] => rfl
    | c :: r => by rw [ren.renLL, ren_id.renL_id c, renLL_id r]
theorem renO_id (o : AObj) : renO (fun i => i) o = o := by
  cases o with
  | cells cs => exact congrArg AObj.cells (ren_id.renL_id cs)
  | arr => rfl
  | map kt et es it => cases it <;> rfl

/-- A value says the same under other names. -/
theorem Rep.ren {w : World} {X : Nat → Prop} {G G' : Ctx} {f : Nat → Nat} {x : AV} {v : Value} (h : Rep w X G x v) :
    (∀ id, fresh id x = false → G'.m (f id) = G.m id ∧ ((∃ A l c, G.m id = .slice A l c) → G'.len (f id) = G.len id)) → Rep w X G' (ren f x) v := by
  have nb : ∀ id, (!(Nat.beq id id)) = false := fun id => by simp
  have inL : ∀ {id : Nat} {cs : List AV} {i : Nat} {c : AV}, cs[i]? = some c → fresh id c = false → fresh.freshL id cs = false := fun {id cs i c} hc hf => by
    cases hl : fresh.freshL id cs
    · rfl
    · rw [freshL_mem hl hc] at hf; cases hf
  have inLL : ∀ {id : Nat} {cs : List (List AV)} {i : Nat} {c : List AV}, cs[i]? = some c → fresh.freshL id c = false → fresh.freshLL id cs = false := fun {id cs i c} hc hf => by
    cases hl : fresh.freshLL id cs
    · rfl
    · rw [freshLL_mem hl hc] at hf; cases hf
  have mapL : ∀ {cs : List AV} {i : Nat} {c : AV}, (ren.renL f cs)[i]? = some c → ∃ c', cs[i]? = some c' ∧ SL.ren f c' = c := fun {cs i c} h => by
    rw [renL_map, List.getElem?_map, Option.map_eq_some_iff] at h; exact h
  have mapLL : ∀ {cs : List (List AV)} {i : Nat} {c : List AV}, (ren.renLL f cs)[i]? = some c → ∃ c', cs[i]? = some c' ∧ ren.renL f c' = c := fun {cs i c} h => by
    rw [renLL_map, List.getElem?_map, Option.map_eq_some_iff] at h
    obtain ⟨c', h1, h2⟩ := h
    exact ⟨c', h1, by rw [renL_map]; exact h2⟩
  induction h with
  | any v => exact fun _ => .any v
  | d x v h => exact fun _ => .d x v h
  | agg cs vs hs _ h1 ih =>
    intro hG
    refine .agg _ vs (by rw [renL_map, List.length_map]; exact hs) (fun i c v hc hv => ?_) h1
    obtain ⟨c', e1, rfl⟩ := mapL hc
    exact ih i c' v e1 hv (fun id hid => hG id (inL e1 hid))
  | tup cs vs hs _ ih =>
    intro hG
    refine .tup _ vs (by rw [renL_map, List.length_map]; exact hs) (fun i c v hc hv => ?_)
    obtain ⟨c', e1, rfl⟩ := mapL hc
    exact ih i c' v e1 hv (fun id hid => hG id (inL e1 hid))
  | ptr id off b h => exact fun hG => .ptr _ off b (((hG id (nb id)).1).trans h)
  | ro cs b off vs hb hn hcell hrep => exact fun _ => .ro cs b off vs hb hn hcell hrep
  | roa cs b off vs hb hn hcell hrep h1 ih =>
    intro hG
    refine .roa _ b off vs hb hn (fun j x hj => ?_) (fun j x hj => ?_) (fun j x hj => ?_) <;> obtain ⟨c', e1, rfl⟩ := mapL hj
    · exact hcell j c' e1
    · exact ih j c' e1 (fun id hid => hG id (inL e1 hid))
    · exact h1 j c' e1
  | sla sz es A n c b off vs hn hcap hA hsz hcell hrep h1 ih =>
    intro hG
    refine .sla sz _ A n c b off vs (by rw [renLL_map, List.length_map]; exact hn) hcap hA (fun i e hi => ?_) (fun i e hi j x hj => ?_) (fun i e hi j x hj => ?_) (fun i e hi j x hj => ?_) <;> obtain ⟨e', e1, rfl⟩ := mapLL hi
    · rw [renL_map, List.length_map]; exact hsz i e' e1
    all_goals obtain ⟨c', e2, rfl⟩ := mapL hj
    · exact hcell i e' e1 j c' e2
    · exact ih i e' e1 j c' e2 (fun id hid => hG id (inLL e1 (inL e2 hid)))
    · exact h1 i e' e1 j c' e2
  | own id n v h1 hn hm hv =>
    intro hG
    obtain ⟨g1, g2⟩ := hG id (nb id)
    have g2 := g2 hm
    exact .own _ n v h1 (by rw [g2]; exact hn) (by rw [g1]; exact hm) (by rw [g1, g2]; exact hv)
  | eptr id n sz k off v h1 hn hm hv =>
    intro hG
    obtain ⟨g1, g2⟩ := hG id (nb id)
    have g2 := g2 hm
    exact .eptr _ n sz k off v h1 (by rw [g2]; exact hn) (by rw [g1]; exact hm) (by rw [g1, g2]; exact hv)
  | mp id b h => exact fun hG => .mp _ b (((hG id (nb id)).1).trans h)
  | it id b h => exact fun hG => .it _ b (((hG id (nb id)).1).trans h)
  | fn g caps vs hs _ ih =>
    intro hG
    refine .fn g _ vs (by rw [renL_map, List.length_map]; exact hs) (fun i c v hc hv => ?_)
    obtain ⟨c', e1, rfl⟩ := mapL hc
    exact ih i c' v e1 hv (fun id hid => hG id (inL e1 hid))
/-- and back -/
theorem Rep.unren {w : World} {X : Nat → Prop} {G : Ctx} {f : Nat → Nat} : ∀ {x : AV} {v : Value}, Rep w X G (SL.ren f x) v → Rep w X ⟨fun i => G.m (f i), fun i => G.len (f i)⟩ x v := by
  intro x v h
  generalize hy : SL.ren f x = y at h
  have getL : ∀ {cs : List AV} {i : Nat} {c : AV}, cs[i]? = some c → (ren.renL f cs)[i]? = some (SL.ren f c) := fun {cs i c} h => by rw [renL_map, List.getElem?_map, h]; rfl
  have getLL : ∀ {cs : List (List AV)} {i : Nat} {c : List AV}, cs[i]? = some c → (ren.renLL f cs)[i]? = some (ren.renL f c) := fun {cs i c} h => by rw [renLL_map, List.getElem?_map, h, renL_map]; rfl
  induction h generalizing x with
  | any v => cases x <;> cases hy; exact .any v
  | d z v h => cases x <;> cases hy; exact .d _ v h
  | agg cs vs hs _ h1 ih =>
    cases x <;> cases hy
    exact .agg _ vs (by rw [renL_map, List.length_map] at hs; exact hs) (fun i c v hc hv => ih i _ v (getL hc) hv rfl) h1
  | tup cs vs hs _ ih =>
    cases x <;> cases hy
    exact .tup _ vs (by rw [renL_map, List.length_map] at hs; exact hs) (fun i c v hc hv => ih i _ v (getL hc) hv rfl)
  | ptr id off b h => cases x <;> cases hy; exact .ptr _ off b h
  | ro cs b off vs hb hn hcell hrep => cases x <;> cases hy; exact .ro _ b off vs hb hn hcell hrep
  | roa cs b off vs hb hn hcell hrep h1 ih =>
    cases x <;> cases hy
    exact .roa _ b off vs hb hn (fun j x hj => hcell j _ (getL hj)) (fun j x hj => ih j _ (getL hj) rfl) (fun j x hj => h1 j _ (getL hj))
  | sla sz es A n c b off vs hn hcap hA hsz hcell hrep h1 ih =>
    cases x <;> cases hy
    refine .sla sz _ A n c b off vs (by rw [renLL_map, List.length_map] at hn; exact hn) hcap hA (fun i e hi => ?_) (fun i e hi j x hj => hcell i _ (getLL hi) j _ (getL hj)) (fun i e hi j x hj => ih i _ (getLL hi) j _ (getL hj) rfl) (fun i e hi j x hj => h1 i _ (getLL hi) j _ (getL hj))
    have := hsz i _ (getLL hi)
    rw [renL_map, List.length_map] at this; exact this
  | own id n v h1 hn hm hv => cases x <;> cases hy; exact .own _ n v h1 hn hm hv
  | eptr id n sz k off v h1 hn hm hv => cases x <;> cases hy; exact .eptr _ n sz k off v h1 hn hm hv
  | mp id b h => cases x <;> cases hy; exact .mp _ b h
  | it id b h => cases x <;> cases hy; exact .it _ b h
  | fn g caps vs hs _ ih =>
    cases x <;> cases hy
    exact .fn g _ vs (by rw [renL_map, List.length_map] at hs; exact hs) (fun i c v hc hv => ih i _ v (getL hc) hv rfl)

theorem names_ren (f : Nat → Nat) (o : AObj) : names (renO f o) = (names o).map f := by
  cases o with
  | map kt et es it => cases it <;> rfl
  | _ => rfl
theorem ObjRep.unren {w : World} {X : Nat → Prop} {G : Ctx} {f : Nat → Nat} {id : Nat} {o : AObj} (h : ObjRep w X G (f id) (renO f o)) : ObjRep w X ⟨fun i => G.m (f i), fun i => G.len (f i)⟩ id o := by
  cases o with
  | cells cs =>
    obtain ⟨b, arr, ty, h1, h2, h3, h4⟩ := h
    refine ⟨b, arr, ty, h1, h2, by rw [renL_map, List.length_map] at h3; exact h3, fun i c v hc hv => ?_⟩
    have := h4 i (SL.ren f c) v (by rw [renL_map, List.getElem?_map, hc]; rfl) hv
    exact ⟨this.1.unren, this.2⟩
  | arr ety sz es => exact h
  | map kt et es it =>
    obtain ⟨b, ents, clock, h1, h2, h3, h4, h5, h6, h7⟩ := h
    refine ⟨b, ents, clock, h1, h2, h3, fun i k c e hi he => ?_, h5, h6, ?_⟩
    · have := h4 i k c e hi he
      exact ⟨this.1, this.2.1.noid _ this.2.2, this.2.2⟩
    · cases it with
      | none => trivial
      | some p => exact h7
/-- the names in an object -/
theorem ObjRep.ren {w : World} {X : Nat → Prop} {G G' : Ctx} {f : Nat → Nat} {id : Nat} {o : AObj} (h : ObjRep w X G id o) (h0 : G'.m (f id) = G.m id ∧ ((∃ A l c, G.m id = .slice A l c) → G'.len (f id) = G.len id))
    (hG : ∀ i, freshO i o = false → G'.m (f i) = G.m i ∧ ((∃ A l c, G.m i = .slice A l c) → G'.len (f i) = G.len i)) : ObjRep w X G' (f id) (renO f o) := by
  cases o with
  | cells cs =>
    obtain ⟨b, arr, ty, h1, h2, h3, h4⟩ := h
    refine ⟨b, arr, ty, h0.1.trans h1, h2, by rw [renL_map, List.length_map]; exact h3, fun i c v hc hv => ?_⟩
    rw [renL_map, List.getElem?_map, Option.map_eq_some_iff] at hc
    obtain ⟨c', e1, rfl⟩ := hc
    refine ⟨(h4 i c' v e1 hv).1.ren (fun j hj => hG j ?_), (h4 i c' v e1 hv).2⟩
    show fresh.freshL j cs = false
    cases hl : fresh.freshL j cs
    · rfl
    · rw [freshL_mem hl e1] at hj; cases hj
  | arr ety sz es =>
    obtain ⟨h1, h2, h3, h4⟩ := h
    have hl := h0.2 h2
    refine ⟨hl.trans h1, by rw [h0.1]; exact h2, h3, by rw [h0.1]; exact h4⟩
  | map kt et es it =>
    obtain ⟨b, ents, clock, h1, h2, h3, h4, h5, h6, h7⟩ := h
    refine ⟨b, ents, clock, h0.1.trans h1, h2, h3, fun i k c e hi he => ?_, h5, h6, ?_⟩
    · have := h4 i k c e hi he
      exact ⟨this.1, this.2.1.noid _ this.2.2, this.2.2⟩
    · cases it with
      | none => trivial
      | some p =>
        obtain ⟨i, todo⟩ := p
        obtain ⟨ib, stamps, e1, e2⟩ := h7
        refine ⟨ib, stamps, (hG i ?_).1.trans e1, e2⟩
        unfold freshO
        simp
theorem Rep.sameCtx {w : World} {X : Nat → Prop} {G G' : Ctx} {x : AV} {v : Value} (h : Rep w X G x v) (hG : ∀ id, fresh id x = false → G'.m id = G.m id ∧ ((∃ A l c, G.m id = .slice A l c) → G'.len id = G.len id)) : Rep w X G' x v := by
  have := h.ren (f := fun i => i) hG
  rwa [ren_id] at this
end Go.SL
