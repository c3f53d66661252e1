/- The layer 'SL': calls that are handed objects. -/
import Derived.Test.YtglkilmflohfoaaDoorS9
namespace Go.SL
open Go.RowKit

/-- other names -/
def ren (f : Nat → Nat) : AV → AV
  | .any => .any
  | .d x => .d x
  | .agg cs => .agg (renL f cs)
  | .tup cs => .tup (renL f cs)
  | .ptr i o => .ptr (f i) o
  | .ro cs => .ro cs
  | .roa cs => .roa (renL f cs)
  | .sla n es => .sla n (renLL f es)
  | .own i n => .own (f i) n
  | .eptr i n s k o => .eptr (f i) n s k o
  | .part i n s k o => .part (f i) n s k o
  | .mp i => .mp (f i)
  | .it i => .it (f i)
  | .fn g cs => .fn g (renL f cs)
  | .bnd g cs => .bnd g (renL f cs)
where
  renL (f : Nat → Nat) : List AV → List AV
    | [] => []
    | c :: r => ren f c :: renL f r
  renLL (f : Nat → Nat) : List (List AV) → List (List AV)
    | [] => []
    | c :: r => renL f c :: renLL f r
def renO (f : Nat → Nat) : AObj → AObj
  | .cells cs => .cells (ren.renL f cs)
  | .tcl ty cs => .tcl ty (ren.renL f cs)
  | .arr e s es => .arr e s es
  | .map kt et es it => .map kt et es (match it with | some (i, l) => some (f i, l) | none => none)
  | .mapF kt et es => .mapF kt et es
  | .mapS kt et es st ck it => .mapS kt et es st ck (match it with | some (i, l) => some (f i, l) | none => none)
  | .raw b o => .raw b o
  | .mapP kt et es => .mapP kt et es
  | .nx kt et ety sz rs dt it => .nx kt et ety sz rs (match dt with | some (i, j, n) => some (i, f j, n) | none => none) (match it with | some (i, l) => some (f i, l) | none => none)

theorem renL_map (f : Nat → Nat) : ∀ cs, ren.renL f cs = cs.map (ren f)
  | [] => rfl
  | c :: r => by rw [ren.renL, renL_map f r]; rfl
theorem renLL_map (f : Nat → Nat) : ∀ cs, ren.renLL f cs = cs.map (List.map (ren f))
  | [] => rfl
  | c :: r => by rw [ren.renLL, renLL_map f r, renL_map]; rfl
theorem ren_id : ∀ x, ren (fun i => i) x = x
  | .any | .d _ | .ro _ | .ptr _ _ | .own _ _ | .eptr _ _ _ _ _ | .part _ _ _ _ _ | .mp _ | .it _ => rfl
  | .agg cs => congrArg AV.agg (renL_id cs)
  | .tup cs => congrArg AV.tup (renL_id cs)
  | .roa cs => congrArg AV.roa (renL_id cs)
  | .fn _ cs => congrArg (AV.fn _) (renL_id cs)
  | .bnd _ cs => congrArg (AV.bnd _) (renL_id cs)
  | .sla _ es => congrArg (AV.sla _) (renLL_id es)
where
  renL_id : ∀ cs, ren.renL (fun i => i) cs = cs
    | [] => rfl
    | c :: r => by rw [ren.renL, ren_id c, renL_id r]
  renLL_id : ∀ cs, ren.renLL (fun i => i) cs = cs
    | [] => rfl
    | c :: r => by rw [ren.renLL, ren_id.renL_id c, renLL_id r]
theorem renO_id (o : AObj) : renO (fun i => i) o = o := by
  cases o with
  | cells cs => exact congrArg AObj.cells (ren_id.renL_id cs)
  | tcl ty cs => exact congrArg (AObj.tcl ty) (ren_id.renL_id cs)
  | arr => rfl
  | mapF => rfl
  | mapS kt et es st ck it => cases it <;> rfl
  | mapP => rfl
  | raw => rfl
  | map kt et es it => cases it <;> rfl
  | nx kt et ety sz rs dt it => cases it <;> cases dt <;> rfl

/-- A value says the same under other names. -/
theorem Rep.ren {w : World} {X : Nat → Prop} {G G' : Ctx} {f : Nat → Nat} {x : AV} {v : Value} (h : Rep w X G x v) :
    (∀ id, fresh id x = false → G'.m (f id) = G.m id ∧ ((∃ A l c, G.m id = .slice A l c) → G'.len (f id) = G.len id)) → Rep w X G' (ren f x) v := by
  have nb : ∀ id, (!(Nat.beq id id)) = false := fun id => by simp
  have inL : ∀ {id : Nat} {cs : List AV} {i : Nat} {c : AV}, cs[i]? = some c → fresh id c = false → fresh.freshL id cs = false := fun {id cs i c} hc hf => by
    cases hl : fresh.freshL id cs
    · rfl
    · rw [freshL_mem hl hc] at hf; cases hf
  have inLL : ∀ {id : Nat} {cs : List (List AV)} {i : Nat} {c : List AV}, cs[i]? = some c → fresh.freshL id c = false → fresh.freshLL id cs = false := fun {id cs i c} hc hf => by
    cases hl : fresh.freshLL id cs
    · rfl
    · rw [freshLL_mem hl hc] at hf; cases hf
  have mapL : ∀ {cs : List AV} {i : Nat} {c : AV}, (ren.renL f cs)[i]? = some c → ∃ c', cs[i]? = some c' ∧ SL.ren f c' = c := fun {cs i c} h => by
    rw [renL_map, List.getElem?_map, Option.map_eq_some_iff] at h; exact h
  have mapLL : ∀ {cs : List (List AV)} {i : Nat} {c : List AV}, (ren.renLL f cs)[i]? = some c → ∃ c', cs[i]? = some c' ∧ ren.renL f c' = c := fun {cs i c} h => by
    rw [renLL_map, List.getElem?_map, Option.map_eq_some_iff] at h
    obtain ⟨c', h1, h2⟩ := h
    exact ⟨c', h1, by rw [renL_map]; exact h2⟩
  induction h with
  | any v => exact fun _ => .any v
  | d x v h => exact fun _ => .d x v h
  | agg cs vs hs _ h1 ih =>
    intro hG
    refine .agg _ vs (by rw [renL_map, List.length_map]; exact hs) (fun i c v hc hv => ?_) h1
    obtain ⟨c', e1, rfl⟩ := mapL hc
    exact ih i c' v e1 hv (fun id hid => hG id (inL e1 hid))
  | tup cs vs hs _ ih =>
    intro hG
    refine .tup _ vs (by rw [renL_map, List.length_map]; exact hs) (fun i c v hc hv => ?_)
    obtain ⟨c', e1, rfl⟩ := mapL hc
    exact ih i c' v e1 hv (fun id hid => hG id (inL e1 hid))
  | ptr id off b h => exact fun hG => .ptr _ off b (((hG id (nb id)).1).trans h)
  | ro cs b off vs hb hn hcell hrep => exact fun _ => .ro cs b off vs hb hn hcell hrep
  | roa cs b off vs hb hn hcell hrep h1 ih =>
    intro hG
    refine .roa _ b off vs hb hn (fun j x hj => ?_) (fun j x hj => ?_) (fun j x hj => ?_) <;> obtain ⟨c', e1, rfl⟩ := mapL hj
    · exact hcell j c' e1
    · exact ih j c' e1 (fun id hid => hG id (inL e1 hid))
    · exact h1 j c' e1
  | sla sz es A n c b off vs hn hcap hA hsz hcell hrep h1 ih =>
    intro hG
    refine .sla sz _ A n c b off vs (by rw [renLL_map, List.length_map]; exact hn) hcap hA (fun i e hi => ?_) (fun i e hi j x hj => ?_) (fun i e hi j x hj => ?_) (fun i e hi j x hj => ?_) <;> obtain ⟨e', e1, rfl⟩ := mapLL hi
    · rw [renL_map, List.length_map]; exact hsz i e' e1
    all_goals obtain ⟨c', e2, rfl⟩ := mapL hj
    · exact hcell i e' e1 j c' e2
    · exact ih i e' e1 j c' e2 (fun id hid => hG id (inLL e1 (inL e2 hid)))
    · exact h1 i e' e1 j c' e2
  | own id n v h1 hn hm hv =>
    intro hG
    obtain ⟨g1, g2⟩ := hG id (nb id)
    have g2 := g2 hm
    exact .own _ n v h1 (by rw [g2]; exact hn) (by rw [g1]; exact hm) (by rw [g1, g2]; exact hv)
  | eptr id n sz k off v h1 hn hm hv =>
    intro hG
    obtain ⟨g1, g2⟩ := hG id (nb id)
    have g2 := g2 hm
    exact .eptr _ n sz k off v h1 (by rw [g2]; exact hn) (by rw [g1]; exact hm) (by rw [g1, g2]; exact hv)
  | part id n sz lo k v h1 hn hm hv =>
    intro hG
    obtain ⟨g1, g2⟩ := hG id (nb id)
    have g2 := g2 hm
    exact .part _ n sz lo k v h1 (by rw [g2]; exact hn) (by rw [g1]; exact hm) (by rw [g1, g2]; exact hv)
  | mp id b h => exact fun hG => .mp _ b (((hG id (nb id)).1).trans h)
  | it id b h => exact fun hG => .it _ b (((hG id (nb id)).1).trans h)
  | fn g caps vs hs _ ih =>
    intro hG
    refine .fn g _ vs (by rw [renL_map, List.length_map]; exact hs) (fun i c v hc hv => ?_)
    obtain ⟨c', e1, rfl⟩ := mapL hc
    exact ih i c' v e1 hv (fun id hid => hG id (inL e1 hid))
  | bnd g caps vs hs _ ih =>
    intro hG
    refine .bnd g _ vs (by rw [renL_map, List.length_map]; exact hs) (fun i c v hc hv => ?_)
    obtain ⟨c', e1, rfl⟩ := mapL hc
    exact ih i c' v e1 hv (fun id hid => hG id (inL e1 hid))
/-- and back -/
theorem Rep.unren {w : World} {X : Nat → Prop} {G : Ctx} {f : Nat → Nat} : ∀ {x : AV} {v : Value}, Rep w X G (SL.ren f x) v → Rep w X ⟨fun i => G.m (f i), fun i => G.len (f i)⟩ x v := by
  intro x v h
  generalize hy : SL.ren f x = y at h
  have getL : ∀ {cs : List AV} {i : Nat} {c : AV}, cs[i]? = some c → (ren.renL f cs)[i]? = some (SL.ren f c) := fun {cs i c} h => by rw [renL_map, List.getElem?_map, h]; rfl
  have getLL : ∀ {cs : List (List AV)} {i : Nat} {c : List AV}, cs[i]? = some c → (ren.renLL f cs)[i]? = some (ren.renL f c) := fun {cs i c} h => by rw [renLL_map, List.getElem?_map, h, renL_map]; rfl
  induction h generalizing x with
  | any v => cases x <;> cases hy; exact .any v
  | d z v h => cases x <;> cases hy; exact .d _ v h
  | agg cs vs hs _ h1 ih =>
    cases x <;> cases hy
    exact .agg _ vs (by rw [renL_map, List.length_map] at hs; exact hs) (fun i c v hc hv => ih i _ v (getL hc) hv rfl) h1
  | tup cs vs hs _ ih =>
    cases x <;> cases hy
    exact .tup _ vs (by rw [renL_map, List.length_map] at hs; exact hs) (fun i c v hc hv => ih i _ v (getL hc) hv rfl)
  | ptr id off b h => cases x <;> cases hy; exact .ptr _ off b h
  | ro cs b off vs hb hn hcell hrep => cases x <;> cases hy; exact .ro _ b off vs hb hn hcell hrep
  | roa cs b off vs hb hn hcell hrep h1 ih =>
    cases x <;> cases hy
    exact .roa _ b off vs hb hn (fun j x hj => hcell j _ (getL hj)) (fun j x hj => ih j _ (getL hj) rfl) (fun j x hj => h1 j _ (getL hj))
  | sla sz es A n c b off vs hn hcap hA hsz hcell hrep h1 ih =>
    cases x <;> cases hy
    refine .sla sz _ A n c b off vs (by rw [renLL_map, List.length_map] at hn; exact hn) hcap hA (fun i e hi => ?_) (fun i e hi j x hj => hcell i _ (getLL hi) j _ (getL hj)) (fun i e hi j x hj => ih i _ (getLL hi) j _ (getL hj) rfl) (fun i e hi j x hj => h1 i _ (getLL hi) j _ (getL hj))
    have := hsz i _ (getLL hi)
    rw [renL_map, List.length_map] at this; exact this
  | own id n v h1 hn hm hv => cases x <;> cases hy; exact .own _ n v h1 hn hm hv
  | eptr id n sz k off v h1 hn hm hv => cases x <;> cases hy; exact .eptr _ n sz k off v h1 hn hm hv
  | part id n sz lo k v h1 hn hm hv => cases x <;> cases hy; exact .part _ n sz lo k v h1 hn hm hv
  | mp id b h => cases x <;> cases hy; exact .mp _ b h
  | it id b h => cases x <;> cases hy; exact .it _ b h
  | fn g caps vs hs _ ih =>
    cases x <;> cases hy
    exact .fn g _ vs (by rw [renL_map, List.length_map] at hs; exact hs) (fun i c v hc hv => ih i _ v (getL hc) hv rfl)
  | bnd g caps vs hs _ ih =>
    cases x <;> cases hy
    exact .bnd g _ vs (by rw [renL_map, List.length_map] at hs; exact hs) (fun i c v hc hv => ih i _ v (getL hc) hv rfl)

theorem names_ren (f : Nat → Nat) (o : AObj) (hx : nonx o = true) : names (renO f o) = (names o).map f := by
  cases o with
  | map kt et es it => cases it <;> rfl
  | mapS kt et es st ck it => cases it <;> rfl
  | nx => cases hx
  | _ => rfl
theorem ObjRep.unren {w : World} {X : Nat → Prop} {G : Ctx} {f : Nat → Nat} {id : Nat} {o : AObj} (h : ObjRep w X G (f id) (renO f o)) (hx : nonx o = true) : ObjRep w X ⟨fun i => G.m (f i), fun i => G.len (f i)⟩ id o := by
  cases o with
  | nx => cases hx
  | cells cs =>
    obtain ⟨b, arr, ty, h1, h2, h3, h4⟩ := h
    refine ⟨b, arr, ty, h1, h2, by rw [renL_map, List.length_map] at h3; exact h3, fun i c v hc hv => ?_⟩
    have := h4 i (SL.ren f c) v (by rw [renL_map, List.getElem?_map, hc]; rfl) hv
    exact ⟨this.1.unren, this.2⟩
  | tcl ty cs =>
    obtain ⟨b, arr, h1, h2, h3, h4, h5⟩ := h
    refine ⟨b, arr, h1, h2, by rw [renL_map, List.length_map] at h3; exact h3, fun i c v hc hv => ?_, h5⟩
    have := h4 i (SL.ren f c) v (by rw [renL_map, List.getElem?_map, hc]; rfl) hv
    exact ⟨this.1.unren, this.2⟩
  | arr ety sz es => exact h
  | raw b o => exact h
  | mapF kt et es =>
    obtain ⟨b, ents, h1, h2, h3, h4, h5⟩ := h
    exact ⟨b, ents, h1, h2, h3, fun i k c e hi he => ⟨(h4 i k c e hi he).1, (h4 i k c e hi he).2.1.noid _ (h4 i k c e hi he).2.2, (h4 i k c e hi he).2.2⟩, h5⟩
  | mapS kt et es st ck it =>
    obtain ⟨b, ents, h1, h2, h3, h4, h5, h7⟩ := h
    refine ⟨b, ents, h1, h2, h3, fun i k c e hi he => ⟨(h4 i k c e hi he).1, (h4 i k c e hi he).2.1.noid _ (h4 i k c e hi he).2.2, (h4 i k c e hi he).2.2⟩, h5, ?_⟩
    cases it with
    | none => trivial
    | some p => exact h7
  | mapP kt et es0 =>
    obtain ⟨es, hp, b, ents, clock, h1, h2, h3, h4, h5⟩ := h
    exact ⟨es, hp, b, ents, clock, h1, h2, h3, fun i k c e hi he => ⟨(h4 i k c e hi he).1, (h4 i k c e hi he).2.1.noid _ (h4 i k c e hi he).2.2, (h4 i k c e hi he).2.2⟩, h5⟩
  | map kt et es it =>
    obtain ⟨b, ents, clock, h1, h2, h3, h4, h5, h6, h7⟩ := h
    refine ⟨b, ents, clock, h1, h2, h3, fun i k c e hi he => ?_, h5, h6, ?_⟩
    · have := h4 i k c e hi he
      exact ⟨this.1, this.2.1.noid _ this.2.2, this.2.2⟩
    · cases it with
      | none => trivial
      | some p => exact h7
/-- the names in an object -/
theorem ObjRep.ren {w : World} {X : Nat → Prop} {G G' : Ctx} {f : Nat → Nat} {id : Nat} {o : AObj} (h : ObjRep w X G id o) (h0 : G'.m (f id) = G.m id ∧ ((∃ A l c, G.m id = .slice A l c) → G'.len (f id) = G.len id))
    (hG : ∀ i, freshO i o = false → G'.m (f i) = G.m i ∧ ((∃ A l c, G.m i = .slice A l c) → G'.len (f i) = G.len i)) (hx : nonx o = true ∨ ∀ i, f i = i) : ObjRep w X G' (f id) (renO f o) := by
  cases o with
  | nx kt et ety sz rs dt it =>
    rcases hx with hx | hx
    · cases hx
    have hfr : ∀ i, freshO (inm i) (.nx kt et ety sz rs dt it) = false := fun i => by
      unfold freshO
      have : Nat.blt (inm i) 1000000 = false := by
        cases h : Nat.blt (inm i) 1000000 with
        | false => rfl
        | true => have : inm i < 1000000 := by simpa using h
                  unfold inm at this; omega
      rw [this]; rfl
    obtain ⟨b, ents, clock, h1, h2, h3, h4, h5, h6, h7⟩ := h
    refine ⟨b, ents, clock, h0.1.trans h1, h2, h3, fun i k r e hi he => ⟨(h4 i k r e hi he).1, fun ho => ?_, fun j n hd => ?_⟩, h5, h6, ?_⟩
    · have ho' : offD dt i = false := by
        cases dt with
        | none => rfl
        | some p => exact ho
      obtain ⟨e1, e2, g1, g2, g3, g4⟩ := (h4 i k r e hi he).2.1 ho'
      have hm := hG (inm i) (hfr i)
      rw [hx] at hm
      exact ⟨by rw [hm.1]; exact e1, by rw [hm.1]; exact e2, (hm.2 g2).trans g1, by rw [hm.1]; exact g2, g3, by rw [hm.1]; exact g4⟩
    · cases dt with
      | none => cases hd
      | some p =>
        obtain ⟨i0, j0, n0⟩ := p
        cases hd
        have hr := (h4 i k r e hi he).2.2 j0 n rfl
        have := hr.ren (f := f) (G' := G') (fun q hq => hG q (by
          have hq' : (!(Nat.beq q j0)) = false := hq
          unfold freshO
          dsimp only
          rw [hq']
          simp))
        exact this
    · cases it with
      | none => trivial
      | some p =>
        obtain ⟨i, todo⟩ := p
        obtain ⟨ib, stamps, e1, e2⟩ := h7
        refine ⟨ib, stamps, (hG i ?_).1.trans e1, e2⟩
        unfold freshO
        simp
  | cells cs =>
    obtain ⟨b, arr, ty, h1, h2, h3, h4⟩ := h
    refine ⟨b, arr, ty, h0.1.trans h1, h2, by rw [renL_map, List.length_map]; exact h3, fun i c v hc hv => ?_⟩
    rw [renL_map, List.getElem?_map, Option.map_eq_some_iff] at hc
    obtain ⟨c', e1, rfl⟩ := hc
    refine ⟨(h4 i c' v e1 hv).1.ren (fun j hj => hG j ?_), (h4 i c' v e1 hv).2⟩
    show fresh.freshL j cs = false
    cases hl : fresh.freshL j cs
    · rfl
    · rw [freshL_mem hl e1] at hj; cases hj
  | tcl ty cs =>
    obtain ⟨b, arr, h1, h2, h3, h4, h5⟩ := h
    refine ⟨b, arr, h0.1.trans h1, h2, by rw [renL_map, List.length_map]; exact h3, fun i c v hc hv => ?_, h5⟩
    rw [renL_map, List.getElem?_map, Option.map_eq_some_iff] at hc
    obtain ⟨c', e1, rfl⟩ := hc
    refine ⟨(h4 i c' v e1 hv).1.ren (fun j hj => hG j ?_), (h4 i c' v e1 hv).2⟩
    show fresh.freshL j cs = false
    cases hl : fresh.freshL j cs
    · rfl
    · rw [freshL_mem hl e1] at hj; cases hj
  | arr ety sz es =>
    obtain ⟨h1, h2, h3, h4⟩ := h
    have hl := h0.2 h2
    refine ⟨hl.trans h1, by rw [h0.1]; exact h2, h3, by rw [h0.1]; exact h4⟩
  | raw b o => exact ⟨h0.1.trans h.1, h.2⟩
  | mapF kt et es =>
    obtain ⟨b, ents, h1, h2, h3, h4, h5⟩ := h
    exact ⟨b, ents, h0.1.trans h1, h2, h3, fun i k c e hi he => ⟨(h4 i k c e hi he).1, (h4 i k c e hi he).2.1.noid _ (h4 i k c e hi he).2.2, (h4 i k c e hi he).2.2⟩, h5⟩
  | mapS kt et es st ck it =>
    obtain ⟨b, ents, h1, h2, h3, h4, h5, h7⟩ := h
    refine ⟨b, ents, h0.1.trans h1, h2, h3, fun i k c e hi he => ⟨(h4 i k c e hi he).1, (h4 i k c e hi he).2.1.noid _ (h4 i k c e hi he).2.2, (h4 i k c e hi he).2.2⟩, h5, ?_⟩
    cases it with
    | none => trivial
    | some p =>
      obtain ⟨i, todo⟩ := p
      obtain ⟨ib, stamps, e1, e2⟩ := h7
      refine ⟨ib, stamps, (hG i ?_).1.trans e1, e2⟩
      unfold freshO
      simp
  | mapP kt et es0 =>
    obtain ⟨es, hp, b, ents, clock, h1, h2, h3, h4, h5⟩ := h
    exact ⟨es, hp, b, ents, clock, h0.1.trans h1, h2, h3, fun i k c e hi he => ⟨(h4 i k c e hi he).1, (h4 i k c e hi he).2.1.noid _ (h4 i k c e hi he).2.2, (h4 i k c e hi he).2.2⟩, h5⟩
  | map kt et es it =>
    obtain ⟨b, ents, clock, h1, h2, h3, h4, h5, h6, h7⟩ := h
    refine ⟨b, ents, clock, h0.1.trans h1, h2, h3, fun i k c e hi he => ?_, h5, h6, ?_⟩
    · have := h4 i k c e hi he
      exact ⟨this.1, this.2.1.noid _ this.2.2, this.2.2⟩
    · cases it with
      | none => trivial
      | some p =>
        obtain ⟨i, todo⟩ := p
        obtain ⟨ib, stamps, e1, e2⟩ := h7
        refine ⟨ib, stamps, (hG i ?_).1.trans e1, e2⟩
        unfold freshO
        simp
theorem Rep.sameCtx {w : World} {X : Nat → Prop} {G G' : Ctx} {x : AV} {v : Value} (h : Rep w X G x v) (hG : ∀ id, fresh id x = false → G'.m id = G.m id ∧ ((∃ A l c, G.m id = .slice A l c) → G'.len id = G.len id)) : Rep w X G' x v := by
  have := h.ren (f := fun i => i) hG
  rwa [ren_id] at this
end Go.SL
/- The layer 'SL': the state behind a call that was handed objects. -/
namespace Go.SL
open Go.RowKit

def sameLen : AObj → AObj → Prop
  | .arr _ _ a, .arr _ _ b => a.length = b.length
  | .arr _ _ _, _ => False
  | _, _ => True
def Ctx.via (G : Ctx) (f : Nat → Nat) : Ctx := ⟨fun i => G.m (f i), fun i => G.len (f i)⟩
theorem ObjRep.sameCtx {w : World} {X : Nat → Prop} {G G' : Ctx} {id : Nat} {o : AObj} (h : ObjRep w X G id o) (h0 : G'.m id = G.m id ∧ G'.len id = G.len id)
    (hG : ∀ i, freshO i o = false → G'.m i = G.m i ∧ G'.len i = G.len i) : ObjRep w X G' id o := by
  have := h.ren (f := fun i => i) (G' := G') ⟨h0.1, fun _ => h0.2⟩ (fun i hi => ⟨(hG i hi).1, fun _ => (hG i hi).2⟩) (.inr fun _ => rfl)
  rwa [renO_id] at this
theorem ObjRep.lenOf {w : World} {X : Nat → Prop} {G : Ctx} {id : Nat} {o : AObj} (h : ObjRep w X G id o) (hs : ∃ A l c, G.m id = .slice A l c) : ∃ e s es, o = .arr e s es ∧ G.len id = es.length := by
  obtain ⟨A, l, c, hs⟩ := hs
  cases o with
  | cells cs => obtain ⟨b, arr, ty, h1, _⟩ := h; rw [hs] at h1; cases h1
  | tcl ty cs => obtain ⟨b, arr, h1, _⟩ := h; rw [hs] at h1; cases h1
  | arr e s es => exact ⟨e, s, es, rfl, h.1⟩
  | mapF kt et es => obtain ⟨b, ents, h1, _⟩ := h; rw [hs] at h1; cases h1
  | mapS kt et es st ck it => obtain ⟨b, ents, h1, _⟩ := h; rw [hs] at h1; cases h1
  | mapP kt et es => obtain ⟨_, _, b, ents, _, h1, _⟩ := h; rw [hs] at h1; cases h1
  | raw b o => have h1 := h.1; rw [hs] at h1; cases h1
  | nx kt et ety sz rs dt it => obtain ⟨b, ents, clock, h1, _⟩ := h; rw [hs] at h1; cases h1
  | map kt et es it => obtain ⟨b, ents, clock, h1, _⟩ := h; rw [hs] at h1; cases h1

/-- what a call was handed, and what it left -/
structure Handed (O : Org) (env : Env) (h : Hp) (G : Ctx) (hc : Hp) (ρ : Nat → Nat) : Prop where
  hin : ∀ id o, hget hc id = some o → hget h (ρ id) = some (renO ρ o)
  inj : ∀ id o id' o', hget hc id = some o → hget hc id' = some o' → ρ id = ρ id' → id = id'
  nm : ∀ id o, hget hc id = some o → names o = [] ∧ nonx o = true

theorem Handed.own {O : Org} {env : Env} {h : Hp} {G : Ctx} {hc : Hp} {ρ : Nat → Nat} (H : Handed O env h G hc ρ) {b : Nat} (hb : Own hc (G.via ρ) b) : ∃ id o, hget hc id = some o ∧ blk (G.m (ρ id)) = some b := by
  obtain ⟨id, o, h1, j, hj, h2⟩ := hb
  rw [(H.nm id o h1).1] at hj
  have : j = id := by simpa using hj
  subst this
  exact ⟨j, o, h1, h2⟩
theorem Handed.own' {O : Org} {env : Env} {h : Hp} {G : Ctx} {hc : Hp} {ρ : Nat → Nat} (H : Handed O env h G hc ρ) {b : Nat} (hb : Own hc (G.via ρ) b) : Own h G b := by
  obtain ⟨id, o, h1, h2⟩ := H.own hb
  exact ⟨ρ id, _, H.hin id o h1, ρ id, List.mem_cons_self, h2⟩

def callX (O : Org) (h : Hp) (G : Ctx) (hc : Hp) (ρ : Nat → Nat) : Nat → Prop := fun b => XX O h G b ∧ ¬ Own hc (G.via ρ) b

theorem Handed.start {O : Org} {env : Env} {h : Hp} {a : Act} {w : World} {G : Ctx} {hc : Hp} {ρ : Nat → Nat} (H : Handed O env h G hc ρ) (r : Rel O env h a w G) (ids : List Nat) :
    Rel (org w (callX O h G hc ρ) hc (G.via ρ) ids 0) [] hc noAct w (G.via ρ) := by
  have hX : ∀ b, XX (org w (callX O h G hc ρ) hc (G.via ρ) ids 0) hc (G.via ρ) b → XX O h G b := by
    intro b hb
    rcases hb with hb | hb
    · exact hb.1
    · exact .inr (H.own' hb)
  refine ⟨rfl, rfl, fun t => .any _, fun id o ho => ?_, fun id o j id' o' j' b h1 h2 h3 h4 h5 h6 => ?_, Ext.refl _ w, fun b hb _ => hb, fun b hb => ⟨r.lt hb.1, hb.2⟩, fun id _ => rfl⟩
  · exact ((r.obj _ _ (H.hin id o ho)).unren (H.nm id o ho).2).mono (fun b _ hb => hX b hb)
  · rw [(H.nm id o h1).1] at h2
    rw [(H.nm id' o' h3).1] at h4
    have e1 : j = id := by simpa using h2
    have e2 : j' = id' := by simpa using h4
    subst e1; subst e2
    have := r.dist _ _ (ρ j) _ _ (ρ j') b (H.hin j o h1) List.mem_cons_self (H.hin j' o' h3) List.mem_cons_self h5 h6
    have := H.inj j o j' o' h1 h3 this.1
    exact ⟨this, this⟩

def grewO : AObj → AObj → Prop
  | .arr _ _ a, .arr _ _ b => a.length < b.length
  | _, _ => False
theorem grewO_arr {o o' : AObj} (h : grewO o o') : ∃ e s a e' s' b, o = .arr e s a ∧ o' = .arr e' s' b ∧ a.length < b.length := by
  cases o <;> cases o' <;> first | exact h.elim | exact ⟨_, _, _, _, _, _, rfl, rfl, h⟩
/-- GR: those that were handed in and have grown. -/
structure Left (O : Org) (env : Env) (h : Hp) (G G'' : Ctx) (hc h' h'' : Hp) (G' : Ctx) (ids : List Nat) (ρ τ : Nat → Nat) (N GR : Nat → Prop) : Prop where
  same : ∀ id o, hget hc id = some o → τ id = ρ id
  out : ∀ id o, hget hc id = some o → ∃ o', hget h' id = some o' ∧ ((id ∈ ids ∧ sameLen o o') ∨ (GR id ∧ grewO o o')) ∧ (GR id → grewO o o')
  new : ∀ c, N c → freshAt (τ c) env h ∧ τ c ∉ O.ids ∧ hget hc c = none ∧ ∃ o, hget h' c = some o
  newInj : ∀ c c', N c → N c' → τ c = τ c' → c = c'
  g1 : ∀ c, N c → G''.m (τ c) = G'.m c ∧ G''.len (τ c) = G'.len c
  g2 : ∀ i, (∀ c, N c → τ c ≠ i) → (∀ c o, hget hc c = some o → GR c → ρ c ≠ i) → G''.m i = G.m i ∧ G''.len i = G.len i
  g3 : ∀ c o, hget hc c = some o → GR c → G''.m (ρ c) = G'.m c ∧ G''.len (ρ c) = G'.len c
  gO : ∀ c o, hget hc c = some o → GR c → ρ c ∉ O.ids
  heap : ∀ i o, hget h'' i = some o → (∃ id o', ((∃ o1, hget hc id = some o1) ∨ N id) ∧ hget h' id = some o' ∧ i = τ id ∧ o = renO τ o' ∧ (names o' = [] ∧ nonx o' = true) ∧ (∀ j, freshO j o' = false → (∃ o1, hget hc j = some o1) ∨ N j)) ∨
    (hget h i = some o ∧ ∀ id o1, hget hc id = some o1 → ρ id ≠ i)

theorem names_ptr {w : World} {X : Nat → Prop} {G : Ctx} {id j : Nat} {o : AObj} (h : ObjRep w X G id o) (hj : j ∈ names o) : ∃ b, blk (G.m j) = some b := by
  cases o with
  | map kt et es it =>
    cases it with
    | none => simp [names] at hj
    | some p =>
      obtain ⟨i, todo, cur⟩ := p
      obtain ⟨b, ents, clock, _, _, _, _, _, _, ib, _, g1, _⟩ := h
      have : j = i := by simpa [names] using hj
      subst this
      exact ⟨ib, by rw [g1]; rfl⟩
  | mapS kt et es st ck it =>
    cases it with
    | none => simp [names, itN] at hj
    | some p =>
      obtain ⟨i, todo, cur⟩ := p
      obtain ⟨b, ents, _, _, _, _, _, ib, _, g1, _⟩ := h
      have : j = i := by simpa [names, itN] using hj
      subst this
      exact ⟨ib, by rw [g1]; rfl⟩
  | nx kt et ety sz rs dt it =>
    rcases List.mem_append.1 hj with e | e
    · cases it with
      | none => cases e
      | some p =>
        obtain ⟨i, todo, cur⟩ := p
        obtain ⟨b, ents, clock, _, _, _, _, _, _, ib, _, g1, _⟩ := h
        have : j = i := by simpa [itN] using e
        subst this
        exact ⟨ib, by rw [g1]; rfl⟩
    · obtain ⟨i, hi, ho, rfl⟩ := mem_nxN.1 e
      obtain ⟨_, hc, _⟩ := nx_row h hi ho
      exact hc
  | _ => simp [names] at hj

section
variable {O : Org} {env : Env} {h : Hp} {a : Act} {w w' : World} {G G' G'' : Ctx} {hc h' h'' : Hp} {ids : List Nat} {ρ τ : Nat → Nat} {N GR : Nat → Prop}

/-- a handed object that has not grown stands where it stood -/
theorem Left.kept (H : Handed O env h G hc ρ) (L : Left O env h G G'' hc h' h'' G' ids ρ τ N GR) {j : Nat} {o1 : AObj} (hj : hget hc j = some o1) (hg : ¬ GR j) : G''.m (ρ j) = G.m (ρ j) ∧ G''.len (ρ j) = G.len (ρ j) := by
  refine L.g2 (ρ j) (fun c hc' e => ?_) (fun c o hc' hgr e => ?_)
  · have := (L.new c hc').1.2.2
    rw [e, H.hin j o1 hj] at this
    cases this
  · exact hg (H.inj c o j o1 hc' hj e ▸ hgr)
theorem Left.ctx (H : Handed O env h G hc ρ) (L : Left O env h G G'' hc h' h'' G' ids ρ τ N GR) (r : Rel O env h a w G) (r' : Rel (org w (callX O h G hc ρ) hc (G.via ρ) ids 0) [] h' noAct w' G') :
    ∀ j, ((∃ o1, hget hc j = some o1) ∨ N j) → G''.m (τ j) = G'.m j ∧ ((∃ A l c, G'.m j = .slice A l c) → G''.len (τ j) = G'.len j) := by
  intro j hj
  rcases hj with ⟨o1, hj⟩ | hj
  · rw [L.same j o1 hj]
    by_cases hg : GR j
    · exact ⟨(L.g3 j o1 hj hg).1, fun _ => (L.g3 j o1 hj hg).2⟩
    · obtain ⟨e1, e2⟩ := L.kept H hj hg
      obtain ⟨o', ho', hl, _⟩ := L.out j o1 hj
      rcases hl with ⟨hid, hl⟩ | ⟨hgr, _⟩
      · have e3 : G'.m j = G.m (ρ j) := r'.ids j hid
        refine ⟨e1.trans e3.symm, fun hs => ?_⟩
        obtain ⟨e, s, es, rfl, hlen⟩ := (r'.obj j o' ho').lenOf hs
        obtain ⟨e', s', es', rfl, hlen'⟩ := ((H.start r ids).obj j o1 hj).lenOf (by rw [e3] at hs; exact hs)
        rw [e2, hlen]
        exact hlen'.trans hl
      · exact absurd hgr hg
  · exact ⟨(L.g1 j hj).1, fun _ => (L.g1 j hj).2⟩
/-- the names of the others are no growing ones -/
theorem Left.other (H : Handed O env h G hc ρ) (L : Left O env h G G'' hc h' h'' G' ids ρ τ N GR) (r : Rel O env h a w G) {i j : Nat} {o : AObj} (hi : hget h i = some o) (hne : ∀ id o1, hget hc id = some o1 → ρ id ≠ i) (hj : j ∈ i :: names o) :
    (∀ c, N c → τ c ≠ j) ∧ ∀ c o, hget hc c = some o → GR c → ρ c ≠ j := by
  constructor
  · intro c hc' e
    obtain ⟨⟨_, f2, f3⟩, _⟩ := L.new c hc'
    rcases List.mem_cons.1 hj with e' | e'
    · rw [e, e', hi] at f3; cases f3
    · exact names_ne (f2 i o hi) e' e.symm
  · intro c o1 hc' hgr e
    rcases List.mem_cons.1 hj with e' | e'
    · exact hne c o1 hc' (e.trans e')
    · obtain ⟨b, hb⟩ := names_ptr (r.obj i o hi) e'
      have := r.dist i o j (ρ c) _ (ρ c) b hi hj (H.hin c o1 hc') List.mem_cons_self hb (by rw [e]; exact hb)
      exact hne c o1 hc' this.1.symm

theorem Left.ownCase (H : Handed O env h G hc ρ) (L : Left O env h G G'' hc h' h'' G' ids ρ τ N GR) (r : Rel O env h a w G) (r' : Rel (org w (callX O h G hc ρ) hc (G.via ρ) ids 0) [] h' noAct w' G')
    {i j b : Nat} {o : AObj} (h1 : hget h'' i = some o) (hj : j ∈ i :: names o) (hb : blk (G''.m j) = some b) :
    (∃ id o', ((∃ o1, hget hc id = some o1) ∨ N id) ∧ hget h' id = some o' ∧ i = τ id ∧ j = τ id ∧ o = renO τ o' ∧ blk (G'.m id) = some b ∧
      (w.heap.size ≤ b ∨ ∃ id1 o1, hget hc id1 = some o1 ∧ blk (G.m (ρ id1)) = some b)) ∨
    (hget h i = some o ∧ (∀ id o1, hget hc id = some o1 → ρ id ≠ i) ∧ blk (G.m j) = some b ∧ b < w.heap.size) := by
  rcases L.heap i o h1 with ⟨id, o', hk, ho', hi, ho, hnm, hfr⟩ | ⟨hi, hne⟩
  · left
    rw [ho, names_ren _ _ hnm.2, hnm.1] at hj
    have hji : j = i := by simpa using hj
    have hctx := L.ctx H r r' id hk
    rw [hji, hi, hctx.1] at hb
    refine ⟨id, o', hk, ho', hi, hji.trans hi, ho, hb, ?_⟩
    rcases Nat.lt_or_ge b w.heap.size with hlt | hge
    · have : Own hc (G.via ρ) b := r'.own b ⟨id, o', ho', id, List.mem_cons_self, hb⟩ hlt
      obtain ⟨id1, o1, k1, k2⟩ := H.own this
      exact .inr ⟨id1, o1, k1, k2⟩
    · exact .inl hge
  · right
    obtain ⟨f1, f2⟩ := L.other H r hi hne hj
    rw [(L.g2 j f1 f2).1] at hb
    exact ⟨hi, hne, hb, (r.obj i o hi).lt hj hb⟩

theorem Left.xOld (H : Handed O env h G hc ρ) (L : Left O env h G G'' hc h' h'' G' ids ρ τ N GR) (r : Rel O env h a w G) (r' : Rel (org w (callX O h G hc ρ) hc (G.via ρ) ids 0) [] h' noAct w' G')
    {b : Nat} (hlt : b < w.heap.size) (hb : XX O h'' G'' b) : XX O h G b := by
  rcases hb with hb | ⟨i, o, h1, j, hj, hb⟩
  · exact .inl hb
  · rcases L.ownCase H r r' h1 hj hb with ⟨id, o', _, _, _, _, _, _, h8⟩ | ⟨g1, _, g3, _⟩
    · rcases h8 with h8 | ⟨id1, o1, g2, g3⟩
      · omega
      · exact .inr ⟨ρ id1, _, H.hin id1 o1 g2, ρ id1, List.mem_cons_self, g3⟩
    · exact .inr ⟨i, o, g1, j, hj, g3⟩
theorem Left.xNew (H : Handed O env h G hc ρ) (L : Left O env h G G'' hc h' h'' G' ids ρ τ N GR) (r : Rel O env h a w G) (r' : Rel (org w (callX O h G hc ρ) hc (G.via ρ) ids 0) [] h' noAct w' G')
    {b : Nat} (hb : XX O h'' G'' b) : XX (org w (callX O h G hc ρ) hc (G.via ρ) ids 0) h' G' b := by
  rcases hb with hb | ⟨i, o, h1, j, hj, hb⟩
  · refine .inl ⟨.inl hb, fun ho => ?_⟩
    have := r.own b (H.own' ho) (r.xlt b hb).1
    exact (r.xlt b hb).2 this
  · rcases L.ownCase H r r' h1 hj hb with ⟨id, o', _, h3, _, _, _, h7, _⟩ | ⟨g1, g2, g3, _⟩
    · exact .inr ⟨id, o', h3, id, List.mem_cons_self, h7⟩
    · refine .inl ⟨.inr ⟨i, o, g1, j, hj, g3⟩, fun ho => ?_⟩
      obtain ⟨id, o1, k1, k2⟩ := H.own ho
      have := r.dist i o j (ρ id) _ (ρ id) b g1 hj (H.hin id o1 k1) List.mem_cons_self g3 k2
      exact g2 id o1 k1 this.1.symm

/-- the caller's context, but for what is new -/
noncomputable def midCtx (G G'' : Ctx) (gr : Nat → Prop) : Ctx :=
  open Classical in ⟨fun i => if gr i then G.m i else G''.m i, fun i => if gr i then G.len i else G''.len i⟩
/-- The caller's state behind the call. -/
theorem Left.rel (H : Handed O env h G hc ρ) (L : Left O env h G G'' hc h' h'' G' ids ρ τ N GR) (r : Rel O env h a w G) (r' : Rel (org w (callX O h G hc ρ) hc (G.via ρ) ids 0) [] h' noAct w' G') :
    Rel O env h'' a w' G'' := by
  have he : Ext (Own hc (G.via ρ)) w w' := r'.ext
  have hC : ∀ b, b < w.heap.size → Own hc (G.via ρ) b → XX O h G b := fun b _ hb => .inr (H.own' hb)
  have hX : ∀ b, b < w.heap.size → XX O h'' G'' b → XX O h G b := fun b hlt hb => L.xOld H r r' hlt hb
  generalize hgrd : (fun i => ∃ c o, hget hc c = some o ∧ GR c ∧ ρ c = i) = gr
  have hgr : ∀ i, gr i ↔ ∃ c o, hget hc c = some o ∧ GR c ∧ ρ c = i := fun i => by rw [← hgrd]
  have m1 : ∀ i, gr i → (midCtx G G'' gr).m i = G.m i ∧ (midCtx G G'' gr).len i = G.len i := fun i hi => by unfold midCtx; simp only [hi, if_true, and_self]
  have m0 : ∀ i, ¬ gr i → (midCtx G G'' gr).m i = G''.m i ∧ (midCtx G G'' gr).len i = G''.len i := fun i hi => by unfold midCtx; simp only [hi, if_false, and_self]
  have mOld : ∀ i, (∀ c, N c → τ c ≠ i) → (midCtx G G'' gr).m i = G.m i ∧ (midCtx G G'' gr).len i = G.len i := by
    intro i hi
    by_cases hg : gr i
    · exact m1 i hg
    · obtain ⟨e1, e2⟩ := m0 i hg
      obtain ⟨e3, e4⟩ := L.g2 i hi (fun c o h1 h2 h3 => hg ((hgr i).2 ⟨c, o, h1, h2, h3⟩))
      exact ⟨e1.trans e3, e2.trans e4⟩
  have step : GStep (midCtx G G'' gr) G'' := by
    intro i
    by_cases hg : gr i
    · right
      obtain ⟨c, o, k1, k2, rfl⟩ := (hgr i).1 hg
      obtain ⟨e1, e2⟩ := m1 _ hg
      obtain ⟨e3, e4⟩ := L.g3 c o k1 k2
      obtain ⟨o', ho', _, hgw⟩ := L.out c o k1
      obtain ⟨e, s, a1, e', s', b1, rfl, rfl, hlt⟩ := grewO_arr (hgw k2)
      obtain ⟨l1, ⟨A, n, cc, hs⟩, _⟩ := r.obj _ _ (H.hin c _ k1)
      obtain ⟨l2, hs', _⟩ := r'.obj c _ ho'
      refine ⟨A, n, cc, e1.trans hs, by rw [e3]; exact hs', ?_⟩
      rw [e2, e4, l1, l2]
      exact hlt
    · left
      obtain ⟨e1, e2⟩ := m0 i hg
      exact ⟨e1.symm, e2.symm⟩
  have hrep : ∀ {x : AV} {v : Value}, (∀ c, N c → fresh (τ c) x = true) → Rep w (XX O h G) G x v → Rep w' (XX O h'' G'') G'' x v := by
    intro x v hf hr
    refine (hr.sameCtx (G' := midCtx G G'' gr) (fun id hid => ?_)).ext he hC hX step
    have := mOld id (fun c hc' e => by have := hf c hc'; rw [e, hid] at this; cases this)
    exact ⟨this.1, fun _ => this.2⟩
  refine ⟨r.size, r.dfr, fun t => hrep (fun c hc' => (L.new c hc').1.1 t) (r.env t), fun i o h1 => ?_, fun i o j i' o' j' b h1 hj h2 hj' e1 e2 => ?_, ?_, fun b hb hlt => ?_, r.xlt, fun i hi => ?_⟩
  · rcases L.heap i o h1 with ⟨id, o', hk, ho', hi, ho, hnm, hfr⟩ | ⟨hi, hne⟩
    · rw [hi, ho]
      exact ((r'.obj id o' ho').ren (L.ctx H r r' id hk) (fun j hj => L.ctx H r r' j (hfr j hj)) (.inl hnm.2)).mono (fun b _ hb => L.xNew H r r' hb)
    · have hf : ∀ c, N c → freshO (τ c) o = true ∧ τ c ≠ i := fun c hc' => by
        obtain ⟨⟨_, f2, f3⟩, _⟩ := L.new c hc'
        exact ⟨f2 i o hi, fun e => by rw [e, hi] at f3; cases f3⟩
      have hob := (r.obj i o hi).sameCtx (G' := midCtx G G'' gr) (mOld i (fun c hc' => (hf c hc').2)) (fun j hj => mOld j (fun c hc' e => by have := (hf c hc').1; rw [e, hj] at this; cases this))
      have hng : ∀ j ∈ i :: names o, ¬ gr j := by
        intro j hj hg
        obtain ⟨c, o1, k1, k2, k3⟩ := (hgr j).1 hg
        exact (L.other H r hi hne hj).2 c o1 k1 k2 k3
      refine hob.ext he hC hX (fun hr => hr.ext he hC hX step) (fun j hj => ?_) (fun j b hj hb ho => ?_)
      · obtain ⟨e1, e2⟩ := m0 j (hng j hj)
        exact ⟨e1.symm, e2.symm⟩
      · rw [(mOld j (L.other H r hi hne hj).1).1] at hb
        obtain ⟨id, o1, k1, k2⟩ := H.own ho
        have := r.dist i o j (ρ id) _ (ρ id) b hi hj (H.hin id o1 k1) List.mem_cons_self hb k2
        exact hne id o1 k1 this.1.symm
  · rcases L.ownCase H r r' h1 hj e1 with ⟨id, ob, k1, k2, k3, k4, k5, k6, k7⟩ | ⟨k1, k2, k3, k4⟩
    · rcases L.ownCase H r r' h2 hj' e2 with ⟨id', ob', l1, l2, l3, l4, l5, l6, l7⟩ | ⟨l1, l2, l3, l4⟩
      · have := (r'.dist id ob id id' ob' id' b k2 List.mem_cons_self l2 List.mem_cons_self k6 l6).1
        subst this
        exact ⟨k3.trans l3.symm, k4.trans l4.symm⟩
      · exfalso
        rcases k7 with k7 | ⟨id1, o1, k8, k9⟩
        · omega
        · exact l2 id1 o1 k8 (r.dist _ _ _ i' o' j' b (H.hin id1 o1 k8) List.mem_cons_self l1 hj' k9 l3).1
    · rcases L.ownCase H r r' h2 hj' e2 with ⟨id', ob', l1, l2, l3, l4, l5, l6, l7⟩ | ⟨l1, l2, l3, l4⟩
      · exfalso
        rcases l7 with l7 | ⟨id1, o1, l8, l9⟩
        · omega
        · exact k2 id1 o1 l8 (r.dist _ _ _ i o j b (H.hin id1 o1 l8) List.mem_cons_self k1 hj l9 k3).1
      · exact r.dist i o j i' o' j' b k1 hj l1 hj' k3 l3
  · exact r.ext.transNew he (fun b hlt hb => r.own b (H.own' hb) hlt)
  · obtain ⟨i, o, h1, j, hj, hb⟩ := hb
    have h0 := r.ext.size
    rcases L.ownCase H r r' h1 hj hb with ⟨id, o', _, _, _, _, _, _, h8⟩ | ⟨g1, _, g3, _⟩
    · rcases h8 with h8 | ⟨id1, o1, g2, g3⟩
      · omega
      · exact r.own b ⟨ρ id1, _, H.hin id1 o1 g2, ρ id1, List.mem_cons_self, g3⟩ hlt
    · exact r.own b ⟨i, o, g1, j, hj, g3⟩ hlt
  · rw [(L.g2 i (fun c hc' e => (L.new c hc').2.1 (e ▸ hi)) (fun c o h1 h2 e => L.gO c o h1 h2 (e ▸ hi))).1]
    exact r.ids i hi
/-- and what it handed back -/
theorem Left.res (H : Handed O env h G hc ρ) (L : Left O env h G G'' hc h' h'' G' ids ρ τ N GR) (r : Rel O env h a w G) (r' : Rel (org w (callX O h G hc ρ) hc (G.via ρ) ids 0) [] h' noAct w' G') {x : AV} {v : Value}
    (hx : ∀ j, fresh j x = false → (∃ o1, hget hc j = some o1) ∨ N j) (hr : Rep w' (XX (org w (callX O h G hc ρ) hc (G.via ρ) ids 0) h' G') G' x v) : Rep w' (XX O h'' G'') G'' (ren τ x) v :=
  (hr.ren (fun j hj => L.ctx H r r' j (hx j hj))).ext (Ext.refl (fun _ => False) w') (fun _ _ h => h.elim) (fun _ _ hb => L.xNew H r r' hb) (GStep.refl _)

theorem AC.atH {P : Program} {f : FuncId} {args : List AV} {R : AV → Hp → Prop} (C : AC P f args hc ids R) (H : Handed O env h G hc ρ) (r : Rel O env h a w G) {vs : List Value} (hl : vs.length = args.length)
    (hv : ∀ (i : Nat) (x : AV) (v : Value), args[i]? = some x → vs[i]? = some v → Rep w (XX O h G) G (ren ρ x) v) :
    Calls P f vs.toArray w fun e w' => ∃ v x h' G', e = .returned v ∧ Rel (org w (callX O h G hc ρ) hc (G.via ρ) ids 0) [] h' noAct w' G' ∧ Rep w' (XX (org w (callX O h G hc ρ) hc (G.via ρ) ids 0) h' G') G' x v ∧ R x h' := by
  refine C.2 w (callX O h G hc ρ) (G.via ρ) vs (H.start r ids) hl (fun i x v hx hvv => ((hv i x v hx hvv).unren).ext (Ext.refl (fun _ => False) w) (fun _ _ h => h.elim) (fun b _ hb => ?_) (GStep.refl _))
  rcases hb with hb | hb
  · exact hb.1
  · exact .inr (H.own' hb)
end
end Go.SL
/- The layer 'SL': a call that is handed objects, as an operation. -/
namespace Go.SL
open Go.RowKit

def asg : List (Nat × Nat) → Nat → Nat
  | [], i => i
  | (c, d) :: r, i => bif Nat.beq c i then d else asg r i
/-- the function and its arguments -/
def callA (env : Env) : Op → Option (FuncId × List AV)
  | .call c => match c.callee with
    | .value x => match evalA env x with
      | .fn f caps => some (f, c.args.toList.map (evalA env) ++ caps)
      | .bnd f caps => some (f, caps ++ c.args.toList.map (evalA env))
      | _ => none
    | _ => none
  | _ => none

def onlyN (L : List Nat) : AV → Bool
  | .any | .d _ | .ro _ => true
  | .agg cs | .tup cs | .roa cs | .fn _ cs | .bnd _ cs => onlyL L cs
  | .sla _ es => onlyLL L es
  | .ptr j _ | .own j _ | .eptr j _ _ _ _ | .part j _ _ _ _ | .mp j | .it j => hasN L j
where
  onlyL (L : List Nat) : List AV → Bool
    | [] => true
    | c :: r => onlyN L c && onlyL L r
  onlyLL (L : List Nat) : List (List AV) → Bool
    | [] => true
    | c :: r => onlyL L c && onlyLL L r
theorem only_fresh {L : List Nat} {j : Nat} (hj : j ∉ L) : ∀ {x : AV}, onlyN L x = true → fresh j x = true
  | .any, _ | .d _, _ | .ro _, _ => rfl
  | .agg cs, h => only_freshL cs h
  | .tup cs, h => only_freshL cs h
  | .roa cs, h => only_freshL cs h
  | .fn _ cs, h => only_freshL cs h
  | .bnd _ cs, h => only_freshL cs h
  | .sla _ es, h => only_freshLL es h
  | .ptr i _, h | .own i _, h | .eptr i _ _ _ _, h | .part i _ _ _ _, h | .mp i, h | .it i, h => by
    show (!(Nat.beq j i)) = true
    cases hb : Nat.beq j i
    · rfl
    · rw [Nat.eq_of_beq_eq_true hb] at hj
      exact absurd (hasN_mem.1 h) hj
where
  only_freshL : ∀ (cs : List AV), onlyN.onlyL L cs = true → fresh.freshL j cs = true
    | [], _ => rfl
    | c :: r, h => by
      unfold onlyN.onlyL at h
      simp only [Bool.and_eq_true] at h
      show (fresh j c && fresh.freshL j r) = true
      rw [only_fresh hj h.1, only_freshL r h.2]; rfl
  only_freshLL : ∀ (cs : List (List AV)), onlyN.onlyLL L cs = true → fresh.freshLL j cs = true
    | [], _ => rfl
    | c :: r, h => by
      unfold onlyN.onlyLL at h
      simp only [Bool.and_eq_true] at h
      show (fresh.freshL j c && fresh.freshLL j r) = true
      rw [only_fresh.only_freshL c h.1, only_freshLL r h.2]; rfl
theorem only_in {L : List Nat} {j : Nat} {x : AV} (h : onlyN L x = true) (hf : fresh j x = false) : j ∈ L := by
  by_cases hj : j ∈ L
  · exact hj
  · rw [only_fresh hj h] at hf; cases hf
def onlyO (L : List Nat) : AObj → Bool
  | .cells cs => onlyN.onlyL L cs
  | .tcl _ cs => onlyN.onlyL L cs
  | .arr _ _ _ => true
  | .map _ _ _ it => match it with | some _ => false | none => true
  | .mapF _ _ _ => true
  | .mapS _ _ _ _ _ it => match it with | some _ => false | none => true
  | .mapP _ _ _ => true
  | .raw _ _ => true
  | .nx _ _ _ _ _ _ _ => false
theorem onlyO_spec {L : List Nat} {o : AObj} (h : onlyO L o = true) : (names o = [] ∧ nonx o = true) ∧ ∀ j, freshO j o = false → j ∈ L := by
  cases o with
  | cells cs =>
    refine ⟨⟨rfl, rfl⟩, fun j hf => ?_⟩
    by_cases hj : j ∈ L
    · exact hj
    · have := only_fresh.only_freshL (L := L) (j := j) hj cs h
      have hf : fresh.freshL j cs = false := hf
      rw [this] at hf; cases hf
  | tcl ty cs =>
    refine ⟨⟨rfl, rfl⟩, fun j hf => ?_⟩
    by_cases hj : j ∈ L
    · exact hj
    · have := only_fresh.only_freshL (L := L) (j := j) hj cs h
      have hf : fresh.freshL j cs = false := hf
      rw [this] at hf; cases hf
  | arr => exact ⟨⟨rfl, rfl⟩, fun j hf => by cases hf⟩
  | mapF => exact ⟨⟨rfl, rfl⟩, fun j hf => by cases hf⟩
  | mapS kt et es st ck it =>
    cases it with
    | none => exact ⟨⟨rfl, rfl⟩, fun j hf => by cases hf⟩
    | some p => cases h
  | mapP => exact ⟨⟨rfl, rfl⟩, fun j hf => by cases hf⟩
  | raw => exact ⟨⟨rfl, rfl⟩, fun j hf => by cases hf⟩
  | nx => cases h
  | map kt et es it =>
    cases it with
    | none => exact ⟨⟨rfl, rfl⟩, fun j hf => by cases hf⟩
    | some p => cases h

def AllIn (f : Nat → Nat) (h : Hp) : Hp → Prop
  | [] => True
  | (id, v) :: r => (match v with | some o => hget h (f id) = some (renO f o) | none => True) ∧ AllIn f h r
theorem AllIn.get {f : Nat → Nat} {h : Hp} : ∀ {hc : Hp}, AllIn f h hc → ∀ id o, hget hc id = some o → hget h (f id) = some (renO f o)
  | [], _, _, _, ho => by cases ho
  | (t, v) :: r, H, id, o, ho => by
    rw [hget_cons] at ho
    by_cases e : t = id
    · subst e
      rw [if_pos rfl] at ho
      subst ho
      exact H.1
    · rw [if_neg e] at ho
      exact AllIn.get H.2 id o ho
def lenO (o : AObj) : Option AObj → Prop
  | some o' => match o with
    | .arr _ _ a => match o' with
      | .arr _ _ b => a.length = b.length
      | _ => False
    | _ => True
  | none => False
def LenIn (hr : Hp) : Hp → Prop
  | [] => True
  | (id, v) :: r => (match v with | some o => lenO o (hget hr id) | none => True) ∧ LenIn hr r
theorem LenIn.get {hr : Hp} : ∀ {hc : Hp}, LenIn hr hc → ∀ id o, hget hc id = some o → ∃ o', hget hr id = some o' ∧ sameLen o o'
  | [], _, _, _, ho => by cases ho
  | (t, v) :: r, H, id, o, ho => by
    rw [hget_cons] at ho
    by_cases e : t = id
    · subst e
      rw [if_pos rfl] at ho
      subst ho
      have := H.1
      simp only at this
      cases hg : hget hr t with
      | none => rw [hg] at this; exact this.elim
      | some o' =>
        rw [hg] at this
        refine ⟨o', rfl, ?_⟩
        cases o <;> cases o' <;> first | trivial | exact this
    · rw [if_neg e] at ho
      exact LenIn.get H.2 id o ho
def renH (f : Nat → Nat) : Hp → Hp
  | [] => []
  | (id, v) :: r => (f id, match v with | some o => some (renO f o) | none => none) :: renH f r
theorem keysH_renH (f : Nat → Nat) : ∀ h, keysH (renH f h) = (keysH h).map f
  | [] => rfl
  | (id, v) :: r => by show f id :: keysH (renH f r) = _; rw [keysH_renH f r]; rfl
theorem renH_get {f : Nat → Nat} : ∀ {hr : Hp} {i : Nat} {o : AObj}, hget (renH f hr) i = some o → ∃ id o', (id, some o') ∈ hr ∧ i = f id ∧ o = renO f o'
  | [], _, _, h => by cases h
  | (t, v) :: r, i, o, h => by
    unfold renH at h
    rw [hget_cons] at h
    by_cases e : f t = i
    · rw [if_pos e] at h
      cases v with
      | none => cases h
      | some o' => cases h; exact ⟨t, o', by simp, e.symm, rfl⟩
    · rw [if_neg e] at h
      obtain ⟨id, o', h1, h2⟩ := renH_get h
      exact ⟨id, o', by simp [h1], h2⟩
theorem SubH.mem : ∀ {H h : Hp}, SubH H h → ∀ {id : Nat} {o : AObj}, (id, some o) ∈ H → hget h id = some o
  | (t, v) :: r, h, hs, id, o, hm => by
    rcases List.mem_cons.1 hm with e | e
    · cases e; exact hs.1
    · exact hs.2.mem e
theorem mem_keysH {h : Hp} {id : Nat} {o : AObj} (hg : hget h id = some o) : id ∈ keysH h ∧ (id, some o) ∈ h := by
  induction h with
  | nil => cases hg
  | cons p r ih =>
    obtain ⟨t, v⟩ := p
    rw [hget_cons] at hg
    by_cases e : t = id
    · subst e
      rw [if_pos rfl] at hg
      subst hg
      exact ⟨by simp [keysH], by simp⟩
    · rw [if_neg e] at hg
      obtain ⟨h1, h2⟩ := ih hg
      refine ⟨?_, by simp [h2]⟩
      show id ∈ t :: keysH r
      simp [h1]

/-- what is to be looked up of a call: 'pi' tells the caller's names of what is handed in, 'pn' those of what is new; 'gs' what grows of it. -/
def callOkG (O : Org) (ids gs : List Nat) (hc hr : Hp) (rv : AV) (pi pn : List (Nat × Nat)) : Bool :=
  ((keysH hc).all fun i => (keysH hc).all fun j => Nat.beq i j || !Nat.beq (asg pi i) (asg pi j)) &&
  ((keysH hc).all fun i => (hasN ids i || hasN gs i) && hasN (keysH hr) i && Nat.beq (asg (pi ++ pn) i) (asg pi i) && !hasN (pn.map (·.1)) i) &&
  (pn.all fun p => !hasN O.ids p.2 && hasN (keysH hr) p.1 && Nat.beq (asg (pi ++ pn) p.1) p.2) &&
  (pn.all fun p => pn.all fun q => Nat.beq p.1 q.1 || !Nat.beq p.2 q.2) &&
  (hc.all fun p => match p.2 with | some o => onlyO (keysH hc) o | none => true) &&
  (hr.all fun p => match p.2 with | some o => hasN (keysH hc ++ pn.map (·.1)) p.1 && onlyO (keysH hc ++ pn.map (·.1)) o | none => false) &&
  (hc.all fun p => match p.2 with | some _ => true | none => false) && onlyN (keysH hc ++ pn.map (·.1)) rv &&
  (gs.all fun g => hasN (keysH hc) g && !hasN O.ids (asg pi g))
def callOk (O : Org) (ids : List Nat) (hc hr : Hp) (rv : AV) (pi pn : List (Nat × Nat)) : Bool := callOkG O ids [] hc hr rv pi pn
def growO (o : AObj) : Option AObj → Prop
  | some o' => match o with
    | .arr _ _ a => match o' with
      | .arr _ _ b => a.length < b.length
      | _ => False
    | _ => False
  | none => False
/-- the lengths of what is handed in: those of gs grow, the others stay -/
def LenG (gs : List Nat) (hr : Hp) : Hp → Prop
  | [] => True
  | (id, v) :: r => (match v with | some o => (bif hasN gs id then growO o (hget hr id) else lenO o (hget hr id)) | none => True) ∧ LenG gs hr r
theorem LenG.get {gs : List Nat} {hr : Hp} : ∀ {hc : Hp}, LenG gs hr hc → ∀ id o, hget hc id = some o → ∃ o', hget hr id = some o' ∧ (hasN gs id = false → sameLen o o') ∧ (hasN gs id = true → grewO o o')
  | [], _, _, _, ho => by cases ho
  | (t, v) :: r, H, id, o, ho => by
    rw [hget_cons] at ho
    by_cases e : t = id
    · subst e
      rw [if_pos rfl] at ho
      subst ho
      have := H.1
      simp only at this
      cases hb : hasN gs t with
      | false =>
        rw [hb, cond_false] at this
        cases hg : hget hr t with
        | none => rw [hg] at this; exact this.elim
        | some o' =>
          rw [hg] at this
          refine ⟨o', rfl, fun _ => ?_, fun h => by cases h⟩
          cases o <;> cases o' <;> first | trivial | exact this
      | true =>
        rw [hb, cond_true] at this
        cases hg : hget hr t with
        | none => rw [hg] at this; exact this.elim
        | some o' =>
          rw [hg] at this
          refine ⟨o', rfl, fun h => (by cases h), fun _ => ?_⟩
          cases o <;> cases o' <;> first | exact this.elim | exact this
    · rw [if_neg e] at ho
      exact LenG.get H.2 id o ho
theorem LenIn.toG {hr : Hp} : ∀ {hc : Hp}, LenIn hr hc → LenG [] hr hc
  | [], _ => trivial
  | (_, none) :: _, H => ⟨trivial, LenIn.toG H.2⟩
  | (_, some _) :: _, H => ⟨H.1, LenIn.toG H.2⟩

open Classical in
noncomputable def afterCtx (G G' : Ctx) (pn : List (Nat × Nat)) : Ctx :=
  ⟨fun i => match pn.find? (fun p => p.2 == i) with | some p => G'.m p.1 | none => G.m i, fun i => match pn.find? (fun p => p.2 == i) with | some p => G'.len p.1 | none => G.len i⟩

theorem beq_false_ne {i j : Nat} (h : (!Nat.beq i j) = true) : i ≠ j := by intro e; subst e; simp at h
theorem hget_of_key : ∀ {h : Hp} {id : Nat}, (∀ p ∈ h, ∃ o, p.2 = some o) → id ∈ keysH h → ∃ o, hget h id = some o
  | [], _, _, hm => by cases hm
  | (t, v) :: r, id, hs, hm => by
    rw [hget_cons]
    by_cases e : t = id
    · rw [if_pos e]
      obtain ⟨o, ho⟩ := hs (t, v) (by simp)
      exact ⟨o, ho⟩
    · rw [if_neg e]
      refine hget_of_key (fun p hp => hs p (by simp [hp])) ?_
      rcases List.mem_cons.1 hm with e' | e'
      · exact absurd e'.symm e
      · exact e'

section
variable {P : Program} {O : Org} {T : Tab P} {Q : Exit → Env → Hp → Prop} {env : Env} {h : Hp} {all rest : List Oper} {o : Oper} {rs : List Rc}

theorem run_callA {f : FuncId} {as : List AV} (hc : callA env o.op = some (f, as)) (hf : Callable P f) {env' : Env} {h' : Hp} (he : ∀ x ∈ o.op.operands.toList, evalA env' x = evalA env x) {a : Act} {w : World} {G : Ctx} (r : Rel O env' h' a w G) :
    ∃ vs : List Value, (execOp a.eval o).run P w = .ok (.enter f vs.toArray) w ∧ vs.length = as.length ∧ ∀ (i : Nat) (x : AV) (v : Value), as[i]? = some x → vs[i]? = some v → Rep w (XX O h' G) G x v := by
  unfold callA at hc
  cases ho : o.op with
  | call c =>
    rw [ho] at hc he
    obtain ⟨callee, args, argTypes⟩ := c
    cases callee with
    | value x =>
      simp only at hc
      have hx := evalA_rep r.env x
      rw [he x (by simp [Op.operands, Call.operands])] at hx
      cases hv : evalA env x with
      | fn g caps =>
        rw [hv] at hc hx
        simp only [Option.some.injEq, Prod.mk.injEq] at hc
        obtain ⟨rfl, rfl⟩ := hc
        generalize hxe : a.eval x = xv at hx
        cases hx with
        | fn _ _ cvs hs hrep =>
          refine ⟨(args.map a.eval ++ cvs).toList, ?_, by simp [hs], fun i y v hy hvv => ?_⟩
          · have := hf (args.map a.eval ++ cvs)
            simp [execOp, ho, resolve, hxe, Deferred.ofValue, invoke, this]
          · rw [Array.toList_append] at hvv
            rcases Nat.lt_or_ge i args.size with hlt | hge
            · rw [List.getElem?_append_left (by simpa using hlt)] at hy hvv
              simp only [List.getElem?_map, Option.map_eq_some_iff] at hy
              obtain ⟨z, hz, rfl⟩ := hy
              simp only [Array.toList_map, List.getElem?_map, hz, Option.map_some, Option.some.injEq] at hvv
              subst hvv
              rw [← he z (by have := List.mem_of_getElem? hz; simp [Op.operands, Call.operands, Array.mem_toList_iff.1 this])]
              exact evalA_rep r.env z
            · rw [List.getElem?_append_right (by simpa using hge)] at hy hvv
              simp only [List.length_map, Array.length_toList, Array.size_map] at hy hvv
              exact hrep _ y v hy (by rw [← Array.getElem?_toList]; exact hvv)
      | bnd g caps =>
        rw [hv] at hc hx
        simp only [Option.some.injEq, Prod.mk.injEq] at hc
        obtain ⟨rfl, rfl⟩ := hc
        generalize hxe : a.eval x = xv at hx
        cases hx with
        | bnd _ _ cvs hs hrep =>
          refine ⟨(cvs ++ args.map a.eval).toList, ?_, by simp [hs], fun i y v hy hvv => ?_⟩
          · have := hf (cvs ++ args.map a.eval)
            simp [execOp, ho, resolve, hxe, Deferred.ofValue, invoke, this]
          · rw [Array.toList_append] at hvv
            rcases Nat.lt_or_ge i caps.length with hlt | hge
            · rw [List.getElem?_append_left (by simpa using hlt)] at hy
              rw [List.getElem?_append_left (by simpa [hs] using hlt)] at hvv
              exact hrep _ y v hy (by rw [← Array.getElem?_toList]; exact hvv)
            · rw [List.getElem?_append_right (by simpa using hge)] at hy
              rw [List.getElem?_append_right (by simpa [hs] using hge)] at hvv
              simp only [Array.length_toList, hs] at hvv
              simp only [List.getElem?_map, Option.map_eq_some_iff] at hy
              obtain ⟨z, hz, rfl⟩ := hy
              simp only [Array.toList_map, List.getElem?_map, hz, Option.map_some, Option.some.injEq] at hvv
              subst hvv
              rw [← he z (by have := List.mem_of_getElem? hz; simp [Op.operands, Call.operands, Array.mem_toList_iff.1 this])]
              exact evalA_rep r.env z
      | _ => rw [hv] at hc; cases hc
    | _ => cases hc
  | _ => rw [ho] at hc; cases hc

/-- A call that is handed objects, some of which may grow, and may hand back new ones. -/
theorem LStep_callG {f : FuncId} {args : List AV} {hc hr : Hp} {ids : List Nat} {rv : AV} (gs : List Nat) (pi pn : List (Nat × Nat)) (C : AC P f args hc ids (fun r h' => r = rv ∧ SubH hr h')) (ha : callA env o.op = some (f, ren.renL (asg pi) args)) (hd : dstOk o.dst O.nt = true)
    (hin : AllIn (asg pi) h hc) (hk : callOkG O ids gs hc hr rv pi pn = true) (hl : LenG gs hr hc) :
    LStep P O o env h ((keysH hc).map (asg pi)) (pn.map (·.2)) (ren (asg (pi ++ pn)) rv) (renH (asg (pi ++ pn)) hr) := by
  intro env' h' he hT hN a w G r K Q hK
  obtain ⟨vs, hrun, hlen, hrep⟩ := run_callA ha C.1 he r
  unfold callOkG at hk
  simp only [Bool.and_eq_true, List.all_eq_true] at hk
  obtain ⟨⟨⟨⟨⟨⟨⟨⟨k1, k2⟩, k3⟩, k4⟩, k5⟩, k6⟩, k7⟩, k8⟩, k9⟩ := hk
  have hsome : ∀ p ∈ hc, ∃ o, p.2 = some o := by
    intro p hp
    have := k7 p hp
    cases hp2 : p.2 with
    | none => rw [hp2] at this; cases this
    | some o => exact ⟨o, rfl⟩
  have keyOf : ∀ id, id ∈ keysH hc → ∃ o, hget hc id = some o := fun id hid => hget_of_key hsome hid
  have H : Handed O env' h' G hc (asg pi) := by
    refine ⟨fun id o ho => ?_, fun id o id' o' h1 h2 h3 => ?_, fun id o ho => ?_⟩
    · rw [hT _ (List.mem_map.2 ⟨id, (mem_keysH ho).1, rfl⟩)]
      exact hin.get id o ho
    · have := k1 id (mem_keysH h1).1 id' (mem_keysH h2).1
      rw [Bool.or_eq_true] at this
      rcases this with e | e
      · exact Nat.eq_of_beq_eq_true e
      · exact absurd h3 (beq_false_ne e)
    · have := k5 _ (mem_keysH ho).2
      exact (onlyO_spec this).1
  unfold Oper.wp
  rw [hrun]
  show Calls P f vs.toArray w _
  refine (C.atH H r (by rw [hlen, renL_map, List.length_map]) (fun i x v hx hv => hrep i _ v (by rw [renL_map, List.getElem?_map, hx]; rfl) hv)).mono ?_
  rintro e w' ⟨v, x, h'', G', rfl, r', hxr, rfl, hsub⟩
  have newKey : ∀ c, (∃ d, (c, d) ∈ pn) → c ∉ keysH hc := by
    rintro c ⟨d, hcd⟩ hm
    have := (k2 c hm).2
    simp only [Bool.not_eq_true'] at this
    have h2 : hasN (pn.map (·.1)) c = true := hasN_mem.2 (List.mem_map.2 ⟨(c, d), hcd, rfl⟩)
    rw [h2] at this; cases this
  have outKey : ∀ c, c ∈ keysH hr → ∃ o', (c, some o') ∈ hr := by
    intro c hc'
    unfold keysH at hc'
    obtain ⟨⟨c', v⟩, h1, rfl⟩ := List.mem_map.1 hc'
    have := k6 _ h1
    cases v with
    | none => cases this
    | some o' => exact ⟨o', h1⟩
  have cls : ∀ j, j ∈ keysH hc ++ pn.map (·.1) → (∃ o1, hget hc j = some o1) ∨ ∃ d, (j, d) ∈ pn := by
    intro j hj
    rcases List.mem_append.1 hj with hj | hj
    · exact .inl (keyOf j hj)
    · obtain ⟨⟨c, d⟩, h1, rfl⟩ := List.mem_map.1 hj
      exact .inr ⟨d, h1⟩
  have τn : ∀ c d, (c, d) ∈ pn → asg (pi ++ pn) c = d := fun c d hcd => Nat.eq_of_beq_eq_true (k3 _ hcd).2
  have fnd : ∀ c d, (c, d) ∈ pn → ∃ p, pn.find? (fun p => p.2 == d) = some p ∧ p.1 = c := by
    intro c d hcd
    cases hf : pn.find? (fun p => p.2 == d) with
    | none =>
      rw [List.find?_eq_none] at hf
      exact absurd (hf _ hcd) (by simp)
    | some p =>
      have h1 := List.mem_of_find?_eq_some hf
      have h2 : p.2 = d := by simpa using List.find?_some hf
      have := k4 p h1 (c, d) hcd
      rw [Bool.or_eq_true] at this
      rcases this with e | e
      · exact ⟨p, rfl, Nat.eq_of_beq_eq_true e⟩
      · exact absurd h2 (beq_false_ne e)
  have gsK : ∀ g, g ∈ gs → ∃ o, hget hc g = some o := fun g hg => keyOf g (hasN_mem.1 (by have := (k9 g hg).1; exact this))
  have pnNot : ∀ g o, hget hc g = some o → pn.find? (fun p => p.2 == asg pi g) = none := by
    intro g o hg
    rw [List.find?_eq_none]
    intro p hp hpe
    have hpe' : p.2 = asg pi g := by simpa using hpe
    have hf := (hN p.2 (List.mem_map.2 ⟨p, hp, rfl⟩)).2.2
    rw [hpe', H.hin g o hg] at hf
    cases hf
  generalize hpg : pn ++ gs.map (fun g => (g, asg pi g)) = pg
  have L : Left O env' h' G (afterCtx G G' pg) hc h'' (renH (asg (pi ++ pn)) hr ++ h') G' ids (asg pi) (asg (pi ++ pn)) (fun c => ∃ d, (c, d) ∈ pn) (fun g => g ∈ gs) := by
    refine ⟨fun id o ho => ?_, fun id o ho => ?_, fun c hc' => ?_, fun c c' h1 h2 e => ?_, fun c hc' => ?_, fun i hi hi2 => ?_, fun c o ho hg => ?_, fun c o ho hg hm => ?_, fun i o1 ho => ?_⟩
    · exact Nat.eq_of_beq_eq_true (k2 id (mem_keysH ho).1).1.2
    · obtain ⟨o', h1, h2, h3⟩ := hl.get id o ho
      refine ⟨o', hsub.each id o' h1, ?_, fun hg => h3 (hasN_mem.2 hg)⟩
      cases hb : hasN gs id with
      | true => exact .inr ⟨hasN_mem.1 hb, h3 hb⟩
      | false =>
        have := (k2 id (mem_keysH ho).1).1.1.1
        rw [hb, Bool.or_false] at this
        exact .inl ⟨hasN_mem.1 this, h2 hb⟩
    · obtain ⟨d, hcd⟩ := hc'
      have h3 := k3 _ hcd
      rw [τn c d hcd]
      refine ⟨hN d (List.mem_map.2 ⟨(c, d), hcd, rfl⟩), fun hm => ?_, ?_, ?_⟩
      · have := h3.1.1
        simp only [Bool.not_eq_true'] at this
        rw [hasN_mem.2 hm] at this; cases this
      · cases hg : hget hc c with
        | none => rfl
        | some o => exact absurd (mem_keysH hg).1 (newKey c ⟨d, hcd⟩)
      · obtain ⟨o', ho'⟩ := outKey c (hasN_mem.1 h3.1.2)
        exact ⟨o', hsub.mem ho'⟩
    · obtain ⟨d, hcd⟩ := h1
      obtain ⟨d', hcd'⟩ := h2
      rw [τn c d hcd, τn c' d' hcd'] at e
      have := k4 _ hcd _ hcd'
      rw [Bool.or_eq_true] at this
      rcases this with e' | e'
      · exact Nat.eq_of_beq_eq_true e'
      · exact absurd e (beq_false_ne e')
    · obtain ⟨d, hcd⟩ := hc'
      rw [τn c d hcd]
      obtain ⟨p, hp, rfl⟩ := fnd c d hcd
      have hp' : pg.find? (fun p => p.2 == d) = some p := by rw [← hpg, List.find?_append, hp]; rfl
      unfold afterCtx
      simp only [hp', and_self]
    · have : pg.find? (fun p => p.2 == i) = none := by
        rw [List.find?_eq_none, ← hpg]
        intro p hp
        rcases List.mem_append.1 hp with hp | hp
        · have := hi p.1 ⟨p.2, hp⟩
          rw [τn p.1 p.2 hp] at this
          simpa using this
        · obtain ⟨g, hg, rfl⟩ := List.mem_map.1 hp
          obtain ⟨o, ho⟩ := gsK g hg
          simpa using hi2 g o ho hg
      unfold afterCtx
      simp only [this, and_self]
    · have hp' : ∃ p, pg.find? (fun p => p.2 == asg pi c) = some p ∧ p.1 = c := by
        rw [← hpg, List.find?_append, pnNot c o ho, Option.none_or]
        cases hf : (gs.map (fun g => (g, asg pi g))).find? (fun p => p.2 == asg pi c) with
        | none =>
          rw [List.find?_eq_none] at hf
          exact absurd (hf _ (List.mem_map.2 ⟨c, hg, rfl⟩)) (by simp)
        | some p =>
          have h1 := List.mem_of_find?_eq_some hf
          have h2 : p.2 = asg pi c := by simpa using List.find?_some hf
          obtain ⟨g, hg', rfl⟩ := List.mem_map.1 h1
          obtain ⟨o2, ho2⟩ := gsK g hg'
          exact ⟨_, rfl, H.inj g o2 c o ho2 ho h2⟩
      obtain ⟨p, hp, rfl⟩ := hp'
      unfold afterCtx
      simp only [hp, and_self]
    · have := (k9 c hg).2
      simp only [Bool.not_eq_true'] at this
      rw [hasN_mem.2 hm] at this; cases this
    · rw [hget_append] at ho
      by_cases hm : i ∈ keysH (renH (asg (pi ++ pn)) hr)
      · rw [if_pos hm] at ho
        obtain ⟨id, o', h1, h2, h3⟩ := renH_get ho
        have h6 := k6 _ h1
        simp only [Bool.and_eq_true] at h6
        have h7 := onlyO_spec h6.2
        exact .inl ⟨id, o', cls id (hasN_mem.1 h6.1), hsub.mem h1, h2, h3, h7.1, fun j hj => cls j (h7.2 j hj)⟩
      · rw [if_neg hm] at ho
        refine .inr ⟨ho, fun id o2 h1 e => hm ?_⟩
        rw [keysH_renH]
        have h2 := k2 id (mem_keysH h1).1
        exact List.mem_map.2 ⟨id, hasN_mem.1 h2.1.1.2, (Nat.eq_of_beq_eq_true h2.1.2).trans e⟩
  exact hK v w' _ ((L.rel H r r').put hd (L.res H r r' (fun j hj => cls j (only_in k8 hj)) hxr))
/-- A call that is handed objects, and may hand back new ones. -/
theorem LStep_callH {f : FuncId} {args : List AV} {hc hr : Hp} {ids : List Nat} {rv : AV} (pi pn : List (Nat × Nat)) (C : AC P f args hc ids (fun r h' => r = rv ∧ SubH hr h')) (ha : callA env o.op = some (f, ren.renL (asg pi) args)) (hd : dstOk o.dst O.nt = true)
    (hin : AllIn (asg pi) h hc) (hk : callOk O ids hc hr rv pi pn = true) (hl : LenIn hr hc) :
    LStep P O o env h ((keysH hc).map (asg pi)) (pn.map (·.2)) (ren (asg (pi ++ pn)) rv) (renH (asg (pi ++ pn)) hr) := LStep_callG [] pi pn C ha hd hin hk hl.toG
end
end Go.SL
