/- The layer 'SL': a map whose values are rows of its own: a row is lent out under a name, and given back. -/
import Derived.Test.YtofdnkgieigncaaSm
import Derived.Test.YtofdnkgieigncaaSk
import Derived.Test.YtofdnkgieigncaaSz
namespace Go.SL
open Go.RowKit Go.MapKept

def keysR (rs : List (Value × List (List D))) : List (Value × AV) := rs.map fun p => (p.1, AV.any)
theorem keysR_len (rs : List (Value × List (List D))) : (keysR rs).length = rs.length := List.length_map _
theorem keysR_at {rs : List (Value × List (List D))} {i : Nat} {p : Value × AV} (h : (keysR rs)[i]? = some p) : ∃ r, rs[i]? = some (p.1, r) := by
  unfold keysR at h
  rw [List.getElem?_map, Option.map_eq_some_iff] at h
  obtain ⟨q, h1, h2⟩ := h
  subst h2
  exact ⟨q.2, h1⟩
section
variable {P : Program} {O : Org} {T : Tab P} {Q : Exit → Env → Hp → Prop} {env : Env} {h : Hp} {all rest : List Oper} {o : Oper}
variable {t kt et ety sz m id : Nat} {x i : Operand} {rs : List (Value × List (List D))} {dt : Option (Nat × Nat × Nat)} {it : Option (Nat × List Value × Option Value)} {dk : KK} {k : Value} {c : AV}
theorem inm_inj {i j : Nat} (h : inm i = inm j) : i = j := by unfold inm at h; omega
/-- the name of a row is neither the map's nor the loop's -/
theorem nx_names {w : World} {X : Nat → Prop} {G : Ctx} (h : ObjRep w X G id (.nx kt et ety sz rs dt it)) {n : Nat} (hn : n < rs.length) (ho : offD dt n = false) : inm n ≠ id ∧ inm n ∉ itN it := by
  have hrow := nx_row h hn ho
  obtain ⟨b, ents, clock, h1, _, _, _, _, _, h7⟩ := h
  obtain ⟨r, _, _, ⟨A, l, c, hs⟩, _⟩ := hrow
  refine ⟨fun e => (by rw [e, h1] at hs; cases hs), fun hm => ?_⟩
  cases it with
  | none => cases hm
  | some p =>
    obtain ⟨j, todo⟩ := p
    obtain ⟨ib, stamps, e1, _⟩ := h7
    have : inm n = j := by simpa [itN] using hm
    rw [← this, hs] at e1
    cases e1
/-- A row is lent out. -/
theorem Rel.lend {a : Act} {w : World} {G : Ctx} (r : Rel O env h a w G) {n nm : Nat} {row : List (List D)} (hh : hget h id = some (.nx kt et ety sz rs none it)) (hi : rs[n]? = some (k, row)) (hf : freshAt nm env h) (hlt : nm < 1000000) (hid : nm ∉ O.ids) :
    Rel O env ((id, some (.nx kt et ety sz rs (some (n, nm, row.length)) it)) :: (nm, some (.arr ety sz row)) :: h) a w (G.set nm (G.m (inm n)) row.length) := by
  have hob := r.obj id _ hh
  have hnl := (List.getElem?_eq_some_iff.1 hi).1
  obtain ⟨hn1, hn2⟩ := nx_names hob hnl rfl
  obtain ⟨b, ents, clock, h1, h2, h3, h4, h5, h6, h7⟩ := hob
  obtain ⟨e, he⟩ : ∃ e, ents[n]? = some e := ⟨_, Array.getElem?_eq_getElem (by omega)⟩
  obtain ⟨v1, hc, harr⟩ := (h4 n k row e hi he).2.1 rfl
  obtain ⟨hf1, hf2, hf3⟩ := hf
  have hne : ∀ j o', hget h j = some o' → j ≠ nm := fun j o' h1 e => by subst e; rw [hf3] at h1; cases h1
  have hidn := hne id _ hh
  have hin : inm n ≠ nm := by unfold inm; omega
  have hnn : ∀ j o', hget h j = some o' → ∀ q ∈ j :: names o', q ≠ nm := fun j o' h1 q hq => by
    rcases List.mem_cons.1 hq with e | e
    · rw [e]; exact hne j o' h1
    · exact names_ne (hf2 j o' h1) e
  have hmem : inm n ∈ id :: names (.nx kt et ety sz rs none it) := List.mem_cons_of_mem _ (List.mem_append_right _ (mem_nxN.2 ⟨n, hnl, rfl, rfl⟩))
  generalize hO1 : AObj.nx kt et ety sz rs (some (n, nm, row.length)) it = o1
  generalize hG' : G.set nm (G.m (inm n)) row.length = G'
  have gm : G'.m nm = G.m (inm n) := by rw [← hG']; exact G.set_m _ _ _
  have gl : G'.len nm = row.length := by rw [← hG']; exact G.set_len _ _ _
  have gne : ∀ q, q ≠ nm → G'.m q = G.m q ∧ G'.len q = G.len q := fun q hq => by rw [← hG']; exact ⟨G.set_m_ne _ _ hq, G.set_len_ne _ _ hq⟩
  have conv : ∀ j o' q, hget ((id, some o1) :: (nm, some (.arr ety sz row)) :: h) j = some o' → q ∈ j :: names o' → (j = nm ∧ q = nm) ∨ ∃ o0, hget h j = some o0 ∧ q ∈ j :: names o0 ∧ q ≠ nm ∧ ¬ (j = id ∧ q = inm n) := by
    intro j o' q hj hq
    rw [hget_cons] at hj
    by_cases e : id = j
    · rw [if_pos e] at hj
      cases hj
      subst e
      subst hO1
      right
      have hq' : q ∈ id :: names (.nx kt et ety sz rs none it) ∧ q ≠ inm n := by
        rcases List.mem_cons.1 hq with e | e
        · exact ⟨by rw [e]; exact List.mem_cons_self, by rw [e]; exact hn1.symm⟩
        · rcases List.mem_append.1 e with e | e
          · exact ⟨List.mem_cons_of_mem _ (List.mem_append_left _ e), fun e0 => hn2 (e0 ▸ e)⟩
          · obtain ⟨l, hl, ho, rfl⟩ := mem_nxN.1 e
            refine ⟨List.mem_cons_of_mem _ (List.mem_append_right _ (mem_nxN.2 ⟨l, hl, rfl, rfl⟩)), fun e0 => ?_⟩
            have := inm_inj e0
            subst this
            unfold offD at ho
            simp at ho
      exact ⟨_, hh, hq'.1, hnn id _ hh q hq'.1, fun e => hq'.2 e.2⟩
    · rw [if_neg e, hget_cons] at hj
      by_cases e' : nm = j
      · rw [if_pos e'] at hj
        cases hj
        left
        refine ⟨e'.symm, ?_⟩
        have : q = j := by simpa [names] using hq
        rw [this, e']
      · rw [if_neg e'] at hj
        exact .inr ⟨o', hj, hq, hnn j o' hj q hq, fun e0 => e e0.1.symm⟩
  have hO : ∀ b, Own ((id, some o1) :: (nm, some (.arr ety sz row)) :: h) G' b → Own h G b := by
    rintro b ⟨j, o', hj, q, hq, hb⟩
    rcases conv j o' q hj hq with ⟨_, e⟩ | ⟨o0, g1, g2, g3, _⟩
    · rw [e, gm] at hb
      exact ⟨id, _, hh, inm n, hmem, hb⟩
    · rw [(gne q g3).1] at hb
      exact ⟨j, o0, g1, q, g2, hb⟩
  have hX : ∀ b, b < w.heap.size → XX O ((id, some o1) :: (nm, some (.arr ety sz row)) :: h) G' b → XX O h G b := fun b _ hx => hx.imp (fun q => q) (hO b)
  have hrep : ∀ {z : AV} {v : Value}, fresh nm z = true → Rep w (XX O h G) G z v → Rep w (XX O ((id, some o1) :: (nm, some (.arr ety sz row)) :: h) G') G' z v :=
    fun hx hr => by rw [← hG']; exact (hr.setFresh _ _ hx).ext (Ext.refl (fun _ => False) w) (fun _ _ h => h.elim) (by rw [hG']; exact hX) (GStep.refl _)
  have hd : ∀ {z : D} {v : Value}, RepD w (XX O h G) z v → RepD w (XX O ((id, some o1) :: (nm, some (.arr ety sz row)) :: h) G') z v := fun h => h.ext (Ext.refl (fun _ => False) w) (fun _ _ h => h.elim) hX
  have harr' : ∀ {q : Nat} {q' : Nat} {r0 : List (List D)}, G'.m q' = G.m q → G'.len q' = G.len q → ArrRep w (XX O h G) G q ety sz r0 → ArrRep w (XX O ((id, some o1) :: (nm, some (.arr ety sz row)) :: h) G') G' q' ety sz r0 := by
    rintro q q' r0 e1 e2 ⟨g1, g2, g3, xs, g4, g5⟩
    exact ⟨e2.trans g1, by rw [e1]; exact g2, g3, xs, by rw [e1]; exact g4, fun i e hi j x hj => let ⟨v, e1, e2⟩ := g5 i e hi j x hj; ⟨v, e1, hd e2⟩⟩
  refine ⟨r.size, r.dfr, fun t => hrep (hf1 t) (r.env t), fun j o' hj => ?_, fun j o1' q j' o2' q' b hj hq hj' hq' e1 e2 => ?_, r.ext, fun b hb => r.own b (hO b hb), r.xlt, fun j hj => ?_⟩
  · rw [hget_cons] at hj
    by_cases e : id = j
    · rw [if_pos e] at hj
      cases hj
      subst e
      subst hO1
      refine ⟨b, ents, clock, (gne id hidn).1.trans h1, h2, h3, fun l k' r' e' hl he' => ⟨(h4 l k' r' e' hl he').1, fun ho => ?_, fun j' n' hd' => ?_⟩, h5, h6, ?_⟩
      · obtain ⟨a1, a2, a3⟩ := (h4 l k' r' e' hl he').2.1 rfl
        have hlne : inm l ≠ nm := by unfold inm; omega
        exact ⟨by rw [(gne _ hlne).1]; exact a1, by rw [(gne _ hlne).1]; exact a2, harr' (gne _ hlne).1 (gne _ hlne).2 a3⟩
      · cases hd'
        rw [he] at he'
        cases he'
        obtain ⟨g1, g2, g3, xs, g4, g5⟩ := harr
        refine .own nm row.length _ ?_ (by rw [gl]; exact Nat.le_refl _) (by rw [gm]; exact g2) (fun _ => by rw [gm]; exact v1)
        rw [v1]
        obtain ⟨A, l, c, hs⟩ := g2
        rw [hs]; rfl
      · cases it with
        | none => trivial
        | some p =>
          obtain ⟨l, todo⟩ := p
          obtain ⟨ib, stamps, a1, a2⟩ := h7
          have : l ≠ nm := hnn id _ hh l (List.mem_cons_of_mem _ (List.mem_append_left _ (by simp [itN])))
          exact ⟨ib, stamps, (gne l this).1.trans a1, a2⟩
    · rw [if_neg e, hget_cons] at hj
      by_cases e' : nm = j
      · rw [if_pos e'] at hj
        cases hj
        subst e'
        exact harr' gm (gl.trans harr.1.symm) harr
      · rw [if_neg e'] at hj
        have := freshO_rep (G.m (inm n)) row.length (hf2 j o' hj) (hne j o' hj) (r.obj j o' hj)
        rw [hG'] at this
        exact this.mono hX
  · rcases conv j o1' q hj hq with ⟨f1, f2⟩ | ⟨o0, g1, g2, g3, g4⟩ <;> rcases conv j' o2' q' hj' hq' with ⟨f1', f2'⟩ | ⟨o0', g1', g2', g3', g4'⟩
    · exact ⟨f1.trans f1'.symm, f2.trans f2'.symm⟩
    · rw [f2, gm] at e1
      rw [(gne q' g3').1] at e2
      have := r.dist id _ (inm n) j' o0' q' b hh hmem g1' g2' e1 e2
      exact absurd ⟨this.1.symm, this.2.symm⟩ g4'
    · rw [f2', gm] at e2
      rw [(gne q g3).1] at e1
      have := r.dist id _ (inm n) j o0 q b hh hmem g1 g2 e2 e1
      exact absurd ⟨this.1.symm, this.2.symm⟩ g4
    · rw [(gne q g3).1] at e1
      rw [(gne q' g3').1] at e2
      exact r.dist j o0 q j' o0' q' b g1 g2 g1' g2' e1 e2
  · rw [(gne j (fun e => by subst e; exact hid hj)).1]
    exact r.ids j hj
/-- all names are the text's own -/
def lowN : AV → Bool
  | .any | .d _ | .ro _ => true
  | .agg cs | .tup cs | .roa cs | .fn _ cs => lowL cs
  | .sla _ es => lowLL es
  | .ptr j _ | .own j _ | .eptr j _ _ _ _ | .part j _ _ _ _ | .mp j | .it j => Nat.blt j 1000000
where
  lowL : List AV → Bool
    | [] => true
    | c :: r => lowN c && lowL r
  lowLL : List (List AV) → Bool
    | [] => true
    | c :: r => lowL c && lowLL r
theorem low_beq {n : Nat} (j : Nat) (hj : Nat.blt j 1000000 = true) : (!(Nat.beq (inm n) j)) = true := by
  have hj : j < 1000000 := by simpa using hj
  cases hq : Nat.beq (inm n) j with
  | false => rfl
  | true =>
    have := Nat.eq_of_beq_eq_true hq
    unfold inm at this
    omega
theorem low_fresh {n : Nat} : ∀ (x : AV), lowN x = true → fresh (inm n) x = true
  | .any, _ => rfl
  | .d _, _ => rfl
  | .ro _, _ => rfl
  | .agg cs, h => goL cs h
  | .tup cs, h => goL cs h
  | .roa cs, h => goL cs h
  | .fn _ cs, h => goL cs h
  | .sla _ es, h => goLL es h
  | .ptr j _, h => low_beq j h
  | .own j _, h => low_beq j h
  | .eptr j _ _ _ _, h => low_beq j h
  | .part j _ _ _ _, h => low_beq j h
  | .mp j, h => low_beq j h
  | .it j, h => low_beq j h
where
  goL : ∀ cs : List AV, lowN.lowL cs = true → fresh.freshL (inm n) cs = true
    | [], _ => rfl
    | c :: r, h => by
      unfold lowN.lowL at h
      rw [Bool.and_eq_true] at h
      show (fresh (inm n) c && fresh.freshL (inm n) r) = true
      rw [low_fresh c h.1, goL r h.2]; rfl
  goLL : ∀ cs : List (List AV), lowN.lowLL cs = true → fresh.freshLL (inm n) cs = true
    | [], _ => rfl
    | c :: r, h => by
      unfold lowN.lowLL at h
      rw [Bool.and_eq_true] at h
      show (fresh.freshL (inm n) c && fresh.freshLL (inm n) r) = true
      rw [goL c h.1, goLL r h.2]; rfl
def lowE : Env → Bool
  | [] => true
  | (_, v) :: r => lowN v && lowE r
theorem lowE_lk : ∀ {env : Env}, lowE env = true → ∀ t, lowN (lk env t) = true
  | [], _, _ => rfl
  | (s, v) :: r, h, t => by
    unfold lowE at h
    rw [Bool.and_eq_true] at h
    rw [lk_cons]
    split
    · exact h.1
    · exact lowE_lk h.2 t
def lowO : AObj → Bool
  | .cells cs => lowN.lowL cs
  | .map _ _ _ it => match it with | some (i, _) => Nat.blt i 1000000 | none => true
  | .mapS _ _ _ _ _ it => match it with | some (i, _) => Nat.blt i 1000000 | none => true
  | .nx _ _ _ _ _ _ _ => false
  | _ => true
theorem lowO_fresh {n : Nat} {o : AObj} (h : lowO o = true) : (∀ {w : World} {X : Nat → Prop} {G : Ctx} {j : Nat} (mv : Value) (l : Nat), j ≠ inm n → ObjRep w X G j o → ObjRep w X (G.set (inm n) mv l) j o) ∧ inm n ∉ names o := by
  have hf : freshO (inm n) o = true := by
    cases o with
    | cells cs => exact low_fresh (.agg cs) h
    | map kt et es it =>
      cases it with
      | none => rfl
      | some p => exact low_beq _ h
    | mapS kt et es st ck it =>
      cases it with
      | none => rfl
      | some p => exact low_beq _ h
    | nx => cases h
    | _ => rfl
  exact ⟨fun mv l hj hr => freshO_rep mv l hf hj hr, fun hm => names_ne hf hm rfl⟩
def lowH (id : Nat) : Hp → Bool
  | [] => true
  | (t, v) :: r => Nat.blt t 1000000 && ((Nat.beq t id || match v with | some o => lowO o | none => true) && lowH id r)
theorem lowH_get {id : Nat} : ∀ {h : Hp}, lowH id h = true → ∀ j o, hget h j = some o → j < 1000000 ∧ (j ≠ id → lowO o = true)
  | [], _, _, _, hj => by cases hj
  | (t, v) :: r, hl, j, o, hj => by
    unfold lowH at hl
    rw [Bool.and_eq_true, Bool.and_eq_true] at hl
    obtain ⟨h1, h2, h3⟩ := hl
    rw [hget_cons] at hj
    by_cases e : t = j
    · subst e
      rw [if_pos rfl] at hj
      subst hj
      refine ⟨by simpa using h1, fun hne => ?_⟩
      rw [Bool.or_eq_true] at h2
      rcases h2 with q | q
      · exact absurd (Nat.eq_of_beq_eq_true q) hne
      · exact q
    · rw [if_neg e] at hj
      exact lowH_get h3 j o hj
/-- The row is given back. -/
theorem Rel.give {a : Act} {w : World} {G : Ctx} (r : Rel O env h a w G) {n nm l : Nat} {row r0 : List (List D)} (hh : hget h id = some (.nx kt et ety sz rs (some (n, nm, l)) it)) (hm : hget h nm = some (.arr ety sz row)) (hi : rs[n]? = some (k, r0)) (hl : row.length = l) (h0 : 0 < l)
    (hlE : lowE env = true) (hlH : lowH id h = true) (hit : (itN it).all (fun j => Nat.blt j 1000000) = true) (hids : O.ids.all (fun j => Nat.blt j 1000000) = true) :
    Rel O env ((id, some (.nx kt et ety sz (rs.set n (k, row)) none it)) :: (nm, none) :: h) a w (G.set (inm n) (G.m nm) l) := by
  have hob := r.obj id _ hh
  have hro := r.obj nm _ hm
  have hnl := (List.getElem?_eq_some_iff.1 hi).1
  obtain ⟨b, ents, clock, h1, h2, h3, h4, h5, h6, h7⟩ := hob
  have hlow := fun t => low_fresh (n := n) _ (lowE_lk hlE t)
  have hoth := fun j o (hj : hget h j = some o) (hne : j ≠ id) => lowO_fresh (n := n) ((lowH_get hlH j o hj).2 hne)
  have hkey : ∀ j o, hget h j = some o → j ≠ inm n := fun j o hj e => by
    have := (lowH_get hlH j o hj).1
    unfold inm at e
    omega
  have hidn : nm ≠ id := fun e => by rw [e, hh] at hm; cases hm
  have hnn : inm n ≠ nm := (hkey nm _ hm).symm
  have hnid : inm n ≠ id := (hkey id _ hh).symm
  have hnit : inm n ∉ itN it := fun hmem => by
    have := List.all_eq_true.1 hit _ hmem
    have : inm n < 1000000 := by simpa using this
    unfold inm at this
    omega
  obtain ⟨e, he⟩ : ∃ e, ents[n]? = some e := ⟨_, Array.getElem?_eq_getElem (by omega)⟩
  have hval : e.val = G.m nm := by
    have := (h4 n k r0 e hi he).2.2 nm l rfl
    generalize e.val = v at this
    cases this with
    | own _ _ _ _ _ _ hv => exact hv (hro.1.trans hl)
  have hblk : ∃ c, blk (G.m nm) = some c := by
    obtain ⟨_, _, _, xs, hx, _⟩ := hro
    rcases hx.2 with ⟨_, e⟩ | ⟨g, cap, cur, e, _⟩
    · omega
    · exact ⟨g, by rw [e]; rfl⟩
  generalize hO1 : AObj.nx kt et ety sz (rs.set n (k, row)) none it = o1
  generalize hG' : G.set (inm n) (G.m nm) l = G'
  have gm : G'.m (inm n) = G.m nm := by rw [← hG']; exact G.set_m _ _ _
  have gl : G'.len (inm n) = l := by rw [← hG']; exact G.set_len _ _ _
  have gne : ∀ q, q ≠ inm n → G'.m q = G.m q ∧ G'.len q = G.len q := fun q hq => by rw [← hG']; exact ⟨G.set_m_ne _ _ hq, G.set_len_ne _ _ hq⟩
  have hlen : (rs.set n (k, row)).length = rs.length := List.length_set
  have conv : ∀ j o' q, hget ((id, some o1) :: (nm, none) :: h) j = some o' → q ∈ j :: names o' → (j = id ∧ q = inm n) ∨ ∃ o0, hget h j = some o0 ∧ q ∈ j :: names o0 ∧ q ≠ inm n ∧ j ≠ nm := by
    intro j o' q hj hq
    rw [hget_cons] at hj
    by_cases e : id = j
    · rw [if_pos e] at hj
      cases hj
      subst e
      subst hO1
      rcases List.mem_cons.1 hq with e | e
      · exact .inr ⟨_, hh, by rw [e]; exact List.mem_cons_self, by rw [e]; exact hnid.symm, hidn.symm⟩
      · rcases List.mem_append.1 e with e | e
        · exact .inr ⟨_, hh, List.mem_cons_of_mem _ (List.mem_append_left _ e), fun e0 => hnit (e0 ▸ e), hidn.symm⟩
        · obtain ⟨p, hp, ho, rfl⟩ := mem_nxN.1 e
          by_cases ep : p = n
          · subst ep; exact .inl ⟨rfl, rfl⟩
          · refine .inr ⟨_, hh, List.mem_cons_of_mem _ (List.mem_append_right _ (mem_nxN.2 ⟨p, by rw [hlen] at hp; exact hp, ?_, rfl⟩)), fun e0 => ep (inm_inj e0), hidn.symm⟩
            unfold offD
            dsimp only
            cases hq : Nat.beq n p with
            | false => rfl
            | true => exact absurd (Nat.eq_of_beq_eq_true hq).symm ep
    · rw [if_neg e, hget_cons] at hj
      by_cases e' : nm = j
      · rw [if_pos e'] at hj; cases hj
      · rw [if_neg e'] at hj
        refine .inr ⟨o', hj, hq, fun e0 => ?_, fun e0 => e' e0.symm⟩
        rcases List.mem_cons.1 hq with q' | q'
        · exact hkey j o' hj (q' ▸ e0)
        · exact (hoth j o' hj (fun e0 => e e0.symm)).2 (e0 ▸ q')
  have hO : ∀ b, Own ((id, some o1) :: (nm, none) :: h) G' b → Own h G b := by
    rintro b ⟨j, o', hj, q, hq, hb⟩
    rcases conv j o' q hj hq with ⟨_, e⟩ | ⟨o0, g1, g2, g3, _⟩
    · rw [e, gm] at hb
      exact ⟨nm, _, hm, nm, List.mem_cons_self, hb⟩
    · rw [(gne q g3).1] at hb
      exact ⟨j, o0, g1, q, g2, hb⟩
  have hX : ∀ b, b < w.heap.size → XX O ((id, some o1) :: (nm, none) :: h) G' b → XX O h G b := fun b _ hx => hx.imp (fun q => q) (hO b)
  have hrep : ∀ {z : AV} {v : Value}, fresh (inm n) z = true → Rep w (XX O h G) G z v → Rep w (XX O ((id, some o1) :: (nm, none) :: h) G') G' z v :=
    fun hx hr => by rw [← hG']; exact (hr.setFresh _ _ hx).ext (Ext.refl (fun _ => False) w) (fun _ _ h => h.elim) (by rw [hG']; exact hX) (GStep.refl _)
  have hd : ∀ {z : D} {v : Value}, RepD w (XX O h G) z v → RepD w (XX O ((id, some o1) :: (nm, none) :: h) G') z v := fun h => h.ext (Ext.refl (fun _ => False) w) (fun _ _ h => h.elim) hX
  have harr' : ∀ {q : Nat} {q' : Nat} {r0 : List (List D)}, G'.m q' = G.m q → G'.len q' = G.len q → ArrRep w (XX O h G) G q ety sz r0 → ArrRep w (XX O ((id, some o1) :: (nm, none) :: h) G') G' q' ety sz r0 := by
    rintro q q' r0 e1 e2 ⟨g1, g2, g3, xs, g4, g5⟩
    exact ⟨e2.trans g1, by rw [e1]; exact g2, g3, xs, by rw [e1]; exact g4, fun i e hi j x hj => let ⟨v, e1, e2⟩ := g5 i e hi j x hj; ⟨v, e1, hd e2⟩⟩
  refine ⟨r.size, r.dfr, fun t => hrep (hlow t) (r.env t), fun j o' hj => ?_, fun j o1' q j' o2' q' b hj hq hj' hq' e1 e2 => ?_, r.ext, fun b hb => r.own b (hO b hb), r.xlt, fun j hj => ?_⟩
  · rw [hget_cons] at hj
    by_cases e : id = j
    · rw [if_pos e] at hj
      cases hj
      subst e
      subst hO1
      refine ⟨b, ents, clock, (gne id hnid.symm).1.trans h1, h2, by rw [hlen]; exact h3, fun p k' r' e' hp he' => ?_, h5, h6, ?_⟩
      · by_cases ep : p = n
        · subst ep
          rw [List.getElem?_set_self hnl] at hp
          cases hp
          rw [he] at he'
          cases he'
          refine ⟨(h4 p k r0 e hi he).1, fun _ => ⟨?_, ?_, ?_⟩, fun j' n' hd' => by cases hd'⟩
          · rw [gm]; exact hval
          · rw [gm]; exact hblk
          · exact harr' (q := nm) gm (gl.trans (hro.1.trans hl).symm) hro
        · rw [List.getElem?_set_ne (fun e => ep e.symm)] at hp
          have hne : inm p ≠ inm n := fun e0 => ep (inm_inj e0)
          refine ⟨(h4 p k' r' e' hp he').1, fun _ => ?_, fun j' n' hd' => by cases hd'⟩
          obtain ⟨a1, a2, a3⟩ := (h4 p k' r' e' hp he').2.1 (by
            unfold offD
            dsimp only
            cases hq : Nat.beq n p with
            | false => rfl
            | true => exact absurd (Nat.eq_of_beq_eq_true hq).symm ep)
          exact ⟨by rw [(gne _ hne).1]; exact a1, by rw [(gne _ hne).1]; exact a2, harr' (gne _ hne).1 (gne _ hne).2 a3⟩
      · cases it with
        | none => trivial
        | some p =>
          obtain ⟨q, todo⟩ := p
          obtain ⟨ib, stamps, a1, a2⟩ := h7
          have : q ≠ inm n := fun e0 => hnit (by simp [itN, e0])
          exact ⟨ib, stamps, (gne q this).1.trans a1, a2⟩
    · rw [if_neg e, hget_cons] at hj
      by_cases e' : nm = j
      · rw [if_pos e'] at hj; cases hj
      · rw [if_neg e'] at hj
        have := (hoth j o' hj (fun e0 => e e0.symm)).1 (G.m nm) l (hkey j o' hj) (r.obj j o' hj)
        rw [hG'] at this
        exact this.mono hX
  · rcases conv j o1' q hj hq with ⟨f1, f2⟩ | ⟨o0, g1, g2, g3, g4⟩ <;> rcases conv j' o2' q' hj' hq' with ⟨f1', f2'⟩ | ⟨o0', g1', g2', g3', g4'⟩
    · exact ⟨f1.trans f1'.symm, f2.trans f2'.symm⟩
    · rw [f2, gm] at e1
      rw [(gne q' g3').1] at e2
      exact absurd (r.dist nm _ nm j' o0' q' b hm List.mem_cons_self g1' g2' e1 e2).1.symm g4'
    · rw [f2', gm] at e2
      rw [(gne q g3).1] at e1
      exact absurd (r.dist nm _ nm j o0 q b hm List.mem_cons_self g1 g2 e2 e1).1.symm g4
    · rw [(gne q g3).1] at e1
      rw [(gne q' g3').1] at e2
      exact r.dist j o0 q j' o0' q' b g1 g2 g1' g2' e1 e2
  · rw [(gne j (fun e => by
      have := List.all_eq_true.1 hids j hj
      have : j < 1000000 := by simpa using this
      unfold inm at e
      omega)).1]
    exact r.ids j hj
theorem AW_give {c : Code} (id nm : Nat) {n l : Nat} {row r0 : List (List D)} (hh : hget h id = some (.nx kt et ety sz rs (some (n, nm, l)) it)) (hm : hget h nm = some (.arr ety sz row)) (hi : rs[n]? = some (k, r0)) (hl : row.length = l) (h0 : 0 < l)
    (hlE : lowE env = true) (hlH : lowH id h = true) (hit : (itN it).all (fun j => Nat.blt j 1000000) = true) (hids : O.ids.all (fun j => Nat.blt j 1000000) = true) (H : AW P O c Q env ((id, some (.nx kt et ety sz (rs.set n (k, row)) none it)) :: (nm, none) :: h)) : AW P O c Q env h :=
  fun a w _ r => H a w _ (r.give hh hm hi hl h0 hlE hlH hit hids)
theorem AW_giveQ {c : Code} (id nm : Nat) {n l : Nat} {row r0 : List (List D)} {rs' : List (Value × List (List D))} (hh : hget h id = some (.nx kt et ety sz rs (some (n, nm, l)) it)) (hm : hget h nm = some (.arr ety sz row)) (hi : rs[n]? = some (k, r0)) (hl : row.length = l) (h0 : 0 < l) (he : rs.set n (k, row) = rs')
    (hlE : lowE env = true) (hlH : lowH id h = true) (hit : (itN it).all (fun j => Nat.blt j 1000000) = true) (hids : O.ids.all (fun j => Nat.blt j 1000000) = true) (H : AW P O c Q env ((id, some (.nx kt et ety sz rs' none it)) :: (nm, none) :: h)) : AW P O c Q env h :=
  AW_give id nm hh hm hi hl h0 hlE hlH hit hids (he ▸ H)
/-- .. at the end of a piece of code -/
abbrev GiveOk (O : Org) (id nm : Nat) (env : Env) (h : Hp) (K : Hp → Prop) : Prop := ∃ (kt et ety sz : Nat) (rs rs' : List (Value × List (List D))) (it : Option (Nat × List Value × Option Value)) (n l : Nat) (k : Value) (row r0 : List (List D)),
  hget h id = some (.nx kt et ety sz rs (some (n, nm, l)) it) ∧ hget h nm = some (.arr ety sz row) ∧ rs[n]? = some (k, r0) ∧ row.length = l ∧ 0 < l ∧ rs.set n (k, row) = rs' ∧ lowE env = true ∧ lowH id h = true ∧ (itN it).all (fun j => Nat.blt j 1000000) = true ∧ O.ids.all (fun j => Nat.blt j 1000000) = true ∧
  K ((id, some (.nx kt et ety sz rs' none it)) :: (nm, none) :: h)
theorem AW_giveEnd {c : Code} (id nm : Nat) (H : AW P O c (fun e env h => GiveOk O id nm env h (Q e env)) env h) : AW P O c Q env h := by
  intro a w G r
  refine Code.wp_mono (fun e a w => ?_) (H a w G r)
  rintro ⟨env, h, G, r, kt, et, ety, sz, rs, rs', it, n, l, k, row, r0, hh, hm, hi, hl, h0, he, hlE, hlH, hit, hids, q⟩
  subst he
  exact ⟨env, _, _, r.give hh hm hi hl h0 hlE hlH hit hids, q⟩
/-- .. once, behind another row that was given back -/
theorem AW_giveEnd' {c : Code} (id nm nm0 : Nat) {x : AObj} {h0 : Hp} (hne : Nat.beq id nm0 = false) (H : AW P O c (fun e env h => GiveOk O id nm env h (Q e env)) env ((nm0, none) :: (id, some x) :: h0)) : AW P O c Q env ((id, some x) :: (nm0, none) :: h0) := by
  refine AW_giveEnd id nm (AW_weak H (fun t => .inl rfl) (fun i o hi => ?_))
  have hn : id ≠ nm0 := fun e => by rw [e] at hne; simp at hne
  rw [hget_cons] at hi
  by_cases e : nm0 = i
  · rw [if_pos e] at hi; cases hi
  · rw [if_neg e, hget_cons] at hi
    rw [hget_cons]
    by_cases e' : id = i
    · rw [if_pos e'] at hi ⊢; exact hi
    · rw [if_neg e'] at hi
      rw [if_neg e', hget_cons, if_neg e]; exact hi
/-- .. where one may have been lent -/
theorem AW_giveOpt {c : Code} (id nm : Nat) (H : AW P O c (fun e env h => Q e env h ∨ GiveOk O id nm env h (Q e env)) env h) : AW P O c Q env h := by
  intro a w G r
  refine Code.wp_mono (fun e a w => ?_) (H a w G r)
  rintro ⟨env, h, G, r, q⟩
  rcases q with q | ⟨kt, et, ety, sz, rs, rs', it, n, l, k, row, r0, hh, hm, hi, hl, h0, he, hlE, hlH, hit, hids, q⟩
  · exact ⟨env, _, _, r, q⟩
  · subst he
    exact ⟨env, _, _, r.give hh hm hi hl h0 hlE hlH hit hids, q⟩
/-- All rows are written no more: the map's values are data. -/
theorem AW_freezeR {c : Code} (id : Nat) (hh : hget h id = some (.nx kt et ety sz rs none it)) (H : AW P O c Q env ((id, some (.map kt et (rs.map fun p => (p.1, .d (.sl sz p.2))) none)) :: h)) : AW P O c Q env h := by
  intro a w G r
  have hob := r.obj id _ hh
  generalize hO1 : AObj.map kt et (rs.map fun p => (p.1, AV.d (.sl sz p.2))) none = o1 at *
  have hn1 : names o1 = [] := by subst hO1; rfl
  have hnames := fun (j : Nat) (hj : j < rs.length) => nx_names hob hj rfl
  have conv : ∀ j o' q, hget ((id, some o1) :: h) j = some o' → q ∈ j :: names o' → ∃ o0, hget h j = some o0 ∧ q ∈ j :: names o0 ∧ (j = id → q = id) := by
    intro j o' q hj hq
    rw [hget_cons] at hj
    by_cases e : id = j
    · rw [if_pos e] at hj
      cases hj
      subst e
      have : q = id := by rw [hn1] at hq; simpa using hq
      exact ⟨_, hh, by rw [this]; exact List.mem_cons_self, fun _ => this⟩
    · rw [if_neg e] at hj
      exact ⟨o', hj, hq, fun e0 => absurd e0.symm e⟩
  have hO : ∀ b, Own ((id, some o1) :: h) G b → Own h G b := by
    rintro b ⟨j, o', hj, q, hq, hb⟩
    obtain ⟨o0, g1, g2, _⟩ := conv j o' q hj hq
    exact ⟨j, o0, g1, q, g2, hb⟩
  have hX : ∀ b, b < w.heap.size → XX O ((id, some o1) :: h) G b → XX O h G b := fun b _ hx => hx.imp (fun q => q) (hO b)
  have hfree : ∀ n, n < rs.length → ∀ b, blk (G.m (inm n)) = some b → ¬ XX O ((id, some o1) :: h) G b := by
    intro n hn b hb hx
    have hmem : inm n ∈ id :: names (.nx kt et ety sz rs none it) := List.mem_cons_of_mem _ (List.mem_append_right _ (mem_nxN.2 ⟨n, hn, rfl, rfl⟩))
    rcases hx with hx | ⟨j, o', hj, q, hq, hb'⟩
    · obtain ⟨h1, h2⟩ := r.xlt b hx
      exact h2 (r.own b ⟨id, _, hh, inm n, hmem, hb⟩ h1)
    · obtain ⟨o0, g1, g2, g3⟩ := conv j o' q hj hq
      have := r.dist id _ (inm n) j o0 q b hh hmem g1 g2 hb hb'
      have e := g3 this.1.symm
      exact (hnames n hn).1 (this.2.trans e)
  refine H a w G ⟨r.size, r.dfr, fun t => (r.env t).ext (Ext.refl (fun _ => False) w) (fun _ _ h => h.elim) hX (GStep.refl G), fun j o' hj => ?_, fun j o1' q j' o2' q' b hj hq hj' hq' e1 e2 => ?_, r.ext, fun b hb => r.own b (hO b hb), r.xlt, r.ids⟩
  · rw [hget_cons] at hj
    by_cases e : id = j
    · rw [if_pos e] at hj
      cases hj
      subst e
      subst hO1
      obtain ⟨b, ents, clock, h1, h2, h3, h4, h5, h6, h7⟩ := hob
      refine ⟨b, ents, clock, h1, h2, by rw [List.length_map]; exact h3, fun n k' c' e' hn he' => ?_, h5, h6, trivial⟩
      rw [List.getElem?_map, Option.map_eq_some_iff] at hn
      obtain ⟨p, hp, hq⟩ := hn
      cases hq
      obtain ⟨k1, row⟩ := p
      obtain ⟨a0, a1, _⟩ := h4 n k1 row e' hp he'
      obtain ⟨v1, _, harr⟩ := a1 rfl
      refine ⟨a0, ?_, rfl⟩
      rw [v1]
      have ho : ObjRep w (XX O h G) G (inm n) (.arr ety sz row) := harr
      exact .d _ _ (own_sl ho hX (hfree n (List.getElem?_eq_some_iff.1 hp).1))
    · rw [if_neg e] at hj
      exact (r.obj j o' hj).mono hX
  · obtain ⟨o0, g1, g2, _⟩ := conv j o1' q hj hq
    obtain ⟨o0', g1', g2', _⟩ := conv j' o2' q' hj' hq'
    exact r.dist j o0 q j' o0' q' b g1 g2 g1' g2' e1 e2
/-- An empty map becomes one of own rows. -/
theorem AW_openR {c : Code} (id : Nat) (ety sz : Nat) (hh : hget h id = some (.map kt et [] none)) (H : AW P O c Q env ((id, some (.nx kt et ety sz [] none none)) :: h)) : AW P O c Q env h := by
  intro a w G r
  obtain ⟨b, ents, clock, h1, h2, h3, h4, h5, h6, h7⟩ := r.obj id _ hh
  exact H a w G (r.same1 hh rfl rfl ⟨b, ents, clock, h1, h2, h3, fun n k r e hn => by simp at hn, h5, h6, trivial⟩)
/-! ### asked and stored -/
theorem nx_at {a : Act} {w : World} {G : Ctx} {env' : Env} {h' : Hp} (r : Rel O env' h' a w G) (hh : hget h' id = some (.nx kt et ety sz rs dt it)) {t : Nat} {d : KK} {k : Value} (hK : T.keyD t = some d) (hk : keyB d k = true)
    (hb : ∀ p ∈ keysR rs, keyB d p.1 = true) : ∃ b ents clock, G.m id = .map (some b) ∧ w.heap[b]? = some (.map ents clock) ∧ ∃ q, (∀ w', (Instr.findKey t k ents.toList).run P w' = .ok q w') ∧ match mat k (keysR rs) 0 with
      | some (j, _) => ∃ e row, ents[j]? = some e ∧ rs[j]? = some (k, row) ∧ q = some (j, e.val) ∧ e.key = k
      | none => q = none := by
  obtain ⟨b, ents, clock, e1, e2, e3, e4, _⟩ := r.obj id _ hh
  obtain ⟨q, f1, f2⟩ := find_mat hK hk (keysR rs) ents.toList hb (by rw [keysR_len]; simpa using e3) (fun j p e hj hj' => by
    obtain ⟨row, hr⟩ := keysR_at hj
    exact (e4 j p.1 row e hr (by rw [← Array.getElem?_toList]; exact hj')).1)
  refine ⟨b, ents, clock, e1, e2, q, f1, ?_⟩
  unfold FoundAt at f2
  cases hm : mat k (keysR rs) 0 with
  | none => rw [hm] at f2; exact f2
  | some p =>
    obtain ⟨j, c⟩ := p
    rw [hm] at f2
    obtain ⟨_, e, k', g1, g2, g3, rfl⟩ := f2
    rw [Nat.sub_zero] at g1 g2
    rw [Array.getElem?_toList] at g1
    obtain ⟨row, hr⟩ := keysR_at g2
    exact ⟨e, row, g1, hr, g3, (e4 j k' row e hr g1).1⟩
/-- asked for: the row is lent out -/
theorem LStep_lookupR {n nm : Nat} {row : List (List D)} {c : AV} (ho : o.op = .lookup t x i false) (hd : dstOk o.dst O.nt = true) (hT : T.desc t = some (.map kt et)) (hK : T.keyD kt = some dk) (hx : evalA env x = .mp id) (hi : keyV (evalA env i) = some k) (hk : keyB dk k = true)
    (hh : hget h id = some (.nx kt et ety sz rs none it)) (hb : ∀ p ∈ keysR rs, keyB dk p.1 = true) (hf : mat k (keysR rs) 0 = some (n, c)) (hrow : rs[n]? = some (k, row)) (hnm : Nat.blt nm 1000000 = true) (hids : O.ids.contains nm = false) :
    LStep P O o env h [id] [nm] (.own nm row.length) [(id, some (.nx kt et ety sz rs (some (n, nm, row.length)) it)), (nm, some (.arr ety sz row))] := by
  intro env' h' he hTs hNs a w G r K Q hKK
  have h1 := evalA_rep r.env x
  have h2 := evalA_rep r.env i
  rw [he x (by simp [ho, Op.operands]), hx] at h1
  rw [he i (by simp [ho, Op.operands])] at h2
  replace h2 := keyV_rep hi h2
  have hh' := (hTs id (by simp)).trans hh
  obtain ⟨b, ents, clock, e1, e2, q, f1, f2⟩ := nx_at r hh' hK hk hb
  rw [hf] at f2
  obtain ⟨e, row', g1, g2, rfl, g4⟩ := f2
  rw [hrow] at g2
  cases g2
  have r' := r.lend hh' hrow (hNs nm (by simp)) (by simpa using hnm) (by simpa using hids)
  have hval : Rep w (XX O ((id, some (.nx kt et ety sz rs (some (n, nm, row.length)) it)) :: (nm, some (.arr ety sz row)) :: h') (G.set nm (G.m (inm n)) row.length)) (G.set nm (G.m (inm n)) row.length) (.own nm row.length) e.val := by
    obtain ⟨b', ents', clock', k1, k2, _, k4, _⟩ := r'.obj id _ (by rw [hget_cons, if_pos rfl])
    have hne : id ≠ nm := fun e0 => by
      have := (hNs nm (by simp)).2.2
      rw [← e0, hh'] at this
      cases this
    rw [G.set_m_ne _ _ hne, e1] at k1
    cases k1
    rw [e2] at k2
    cases k2
    exact (k4 n k row e hrow g1).2.2 nm row.length rfl
  generalize hv : a.eval x = v at h1
  cases h1 with
  | mp _ b' hb' =>
    obtain rfl : b = b' := by rw [e1] at hb'; cases hb'; rfl
    refine wp_value (v := e.val) (w' := w) ?_ (hKK _ w _ (r'.put hd hval))
    simp [execOp, ho, hv, h2, Instr.lookup, run_underlying (T.desc_ok hT), Go.MapKept.run_getObj_map e2, chk_run hK hk, f1]
/-- asked for, and not there: an empty row of its own -/
theorem LStep_lookupR0 {nm : Nat} (ho : o.op = .lookup t x i false) (hd : dstOk o.dst O.nt = true) (hT : T.desc t = some (.map kt et)) (hK : T.keyD kt = some dk) (hx : evalA env x = .mp id) (hi : keyV (evalA env i) = some k) (hk : keyB dk k = true)
    (hh : hget h id = some (.nx kt et ety sz rs none it)) (hb : ∀ p ∈ keysR rs, keyB dk p.1 = true) (hf : mat k (keysR rs) 0 = none) (hz : (lkT T.inf et).map (·.2.2) = some (.slice none 0 0)) (hids : O.ids.contains nm = false) :
    LStep P O o env h [id] [nm] (.own nm 0) [(nm, some (.arr ety sz []))] := by
  intro env' h' he hTs hNs a w G r K Q hKK
  have h1 := evalA_rep r.env x
  have h2 := evalA_rep r.env i
  rw [he x (by simp [ho, Op.operands]), hx] at h1
  rw [he i (by simp [ho, Op.operands])] at h2
  replace h2 := keyV_rep hi h2
  have hh' := (hTs id (by simp)).trans hh
  obtain ⟨b, ents, clock, e1, e2, q, f1, f2⟩ := nx_at r hh' hK hk hb
  rw [hf] at f2
  subst f2
  have r' := r.newG (Ext.refl (fun _ => False) w) (id := nm) (mv := .slice none 0 0) (n := 0) (o := .arr ety sz []) (hNs nm (by simp)) (by simpa using hids) rfl (fun b hb => by cases hb)
    ⟨G.set_len _ _ _, ⟨none, 0, 0, G.set_m _ _ _⟩, fun i e h => by simp at h, [], ⟨by simp, .inl ⟨G.set_m _ _ _, rfl⟩⟩, fun i e h => by simp at h⟩
  have hzr : (zeroValue et).run P w = .ok (.slice none 0 0) w := by
    cases hl : lkT T.inf et with
    | none => rw [hl] at hz; cases hz
    | some p =>
      obtain ⟨s, b, z⟩ := p
      rw [hl] at hz
      cases hz
      obtain ⟨i, e1, _, _, e4⟩ := T.inf_ok _ (lkT_mem hl)
      simp [zeroValue, typeInfo, e1, e4]
  generalize hv : a.eval x = v at h1
  cases h1 with
  | mp _ b' hb' =>
    obtain rfl : b = b' := by rw [e1] at hb'; cases hb'; rfl
    refine wp_value (v := .slice none 0 0) (w' := w) ?_ (hKK _ w _ (r'.put hd (.own nm 0 _ rfl (Nat.zero_le _) ⟨none, 0, 0, G.set_m _ _ _⟩ (fun _ => (G.set_m _ _ _).symm))))
    simp [execOp, ho, hv, h2, Instr.lookup, run_underlying (T.desc_ok hT), Go.MapKept.run_getObj_map e2, chk_run hK hk, f1, hzr]
/-- stored: the row that is lent stays at its key -/
theorem LStep_updR {y : Operand} {n nm l l' kt' : Nat} {c : AV} (ho : o.op = .mapUpdate t x i y) (hd : o.dst = none) (hT : T.desc t = some (.map kt et)) (hK : T.keyD kt = some dk) (hx : evalA env x = .mp id) (hi : keyV (evalA env i) = some k) (hy : evalA env y = .own nm l') (hk : keyB dk k = true)
    (hh : hget h id = some (.nx kt' et ety sz rs (some (n, nm, l)) none)) (hb : ∀ p ∈ keysR rs, keyB dk p.1 = true) (hf : mat k (keysR rs) 0 = some (n, c)) :
    LStep P O o env h [id] [] (.tup []) [(id, some (.nx kt' et ety sz rs (some (n, nm, l')) none))] := by
  intro env' h' he hTs _ a w G r K Q hKK
  have h1 := evalA_rep r.env x
  have h2 := evalA_rep r.env i
  have h3 := evalA_rep r.env y
  rw [he x (by simp [ho, Op.operands]), hx] at h1
  rw [he i (by simp [ho, Op.operands])] at h2
  replace h2 := keyV_rep hi h2
  rw [he y (by simp [ho, Op.operands]), hy] at h3
  have hh' := (hTs id (by simp)).trans hh
  obtain ⟨b, ents, clock, e1, e2, q, f1, f2⟩ := nx_at r hh' hK hk hb
  rw [hf] at f2
  obtain ⟨e, row, g1, g2, rfl, g4⟩ := f2
  have hnn := fun (j : Nat) (hj : j < rs.length) (ho : offD (some (n, nm, l)) j = false) => nx_names (r.obj id _ hh') hj ho
  obtain ⟨b0, ents0, clock0, k1, k2, k3, k4, k5, k6, k7⟩ := r.obj id _ hh'
  obtain rfl : b = b0 := by rw [e1] at k1; cases k1; rfl
  rw [e2] at k2
  cases k2
  generalize hv : a.eval x = xv at h1
  cases h1 with
  | mp _ b' hb' =>
    obtain rfl : b = b' := by rw [e1] at hb'; cases hb'; rfl
    generalize hob : putObj ents clock k (a.eval y) (some (n, e.val)) = ob
    have hs := heap_set (o' := ob) e2
    have hrun : (execOp a.eval o).run P w = .ok .skip { w with heap := w.heap.setIfInBounds b ob } := by
      have hfin : (Instr.mapUpdate t (.map (some b)) k (a.eval y)).run P w = .ok () { w with heap := w.heap.setIfInBounds b ob } := by
        rw [← hob]
        simp [putObj, Instr.mapUpdate, run_underlying (T.desc_ok hT), Go.MapKept.run_getObj_map e2, chk_run hK hk, f1, g1, g4, stays_run hk, run_setObj_map _ e2, Result.andThen]
      simp [execOp, ho, hv, h2, hfin]
    have hext : Ext (fun n => n = b) w { w with heap := w.heap.setIfInBounds b ob } := ⟨rfl, rfl, rfl, by simp, fun n _ hne => hs.2 n hne, Nat.le_refl _⟩
    have hown : XX O h' G b := .inr ⟨id, _, hh', id, List.mem_cons_self, by rw [e1]; rfl⟩
    have hnm : names (.nx kt' et ety sz rs (some (n, nm, l')) none) = names (.nx kt' et ety sz rs (some (n, nm, l)) none) := rfl
    have hX : ∀ n0, n0 < w.heap.size → XX O ((id, some (.nx kt' et ety sz rs (some (n, nm, l')) none)) :: h') G n0 → XX O h' G n0 := fun n0 _ hc => Rel.turnX (o' := .nx kt' et ety sz rs (some (n, nm, l')) none) hh' hnm hc
    have hr : ∀ {z : AV} {u : Value}, Rep w (XX O h' G) G z u → Rep { w with heap := w.heap.setIfInBounds b ob } (XX O ((id, some (.nx kt' et ety sz rs (some (n, nm, l')) none)) :: h') G) G z u :=
      fun hz => hz.ext hext (fun n _ hc => by subst hc; exact hown) hX (GStep.refl G)
    have hdd : ∀ {z : D} {u : Value}, RepD w (XX O h' G) z u → RepD { w with heap := w.heap.setIfInBounds b ob } (XX O ((id, some (.nx kt' et ety sz rs (some (n, nm, l')) none)) :: h') G) z u :=
      fun hz => hz.ext hext (fun n _ hc => by subst hc; exact hown) hX
    refine wp_skipped hrun (hKK undef _ G ?_)
    rw [hd]
    refine r.turn hh' hext (fun n _ hc => ⟨id, List.mem_cons_self, by subst hc; rw [e1]; rfl⟩) (GStep.refl G) (fun _ _ => ⟨rfl, rfl⟩) (fun _ => rfl) hnm (fun _ h _ => h) ?_ (fun _ h => .inr h) (fun hm => ?_)
    · have hsz : ents.size = rs.length := k3
      refine ⟨b, ents.modify n fun e => { e with key := k, val := a.eval y }, clock, e1, by rw [← show ob = .map (ents.modify n fun e => { e with key := k, val := a.eval y }) clock from hob.symm]; exact hs.1, by simpa using k3, fun j k' r' e' hj he' => ?_, fun j j' e' e'' hj hj' hbn => ?_, fun e' he' => ?_, ?_⟩
      · rw [Array.getElem?_modify] at he'
        by_cases ej : n = j
        · subst ej
          rw [if_pos rfl, g1] at he'
          cases he'
          rw [g2] at hj
          cases hj
          refine ⟨rfl, fun ho => ?_, fun j' n' hd' => ?_⟩
          · unfold offD at ho
            simp at ho
          · cases hd'
            exact hr h3
        · rw [if_neg ej] at he'
          obtain ⟨a0, a1, a2⟩ := k4 j k' r' e' hj he'
          refine ⟨a0, fun ho => ?_, fun j' n' hd' => ?_⟩
          · obtain ⟨b1, b2, c1, c2, c3, xs, c4, c5⟩ := a1 ho
            have hmem : inm j ∈ id :: names (.nx kt' et ety sz rs (some (n, nm, l)) none) := List.mem_cons_of_mem _ (List.mem_append_right _ (mem_nxN.2 ⟨j, (List.getElem?_eq_some_iff.1 hj).1, ho, rfl⟩))
            refine ⟨b1, b2, c1, c2, c3, xs, ⟨c4.1, ?_⟩, fun i e hi j x hj => let ⟨v, e1, e2⟩ := c5 i e hi j x hj; ⟨v, e1, hdd e2⟩⟩
            rcases c4.2 with e | ⟨g, cap, cur, d1, d2, d3, d4⟩
            · exact .inl e
            · refine .inr ⟨g, cap, cur, d1, d2, (hext.block g (heap_lt d3) (fun e0 => ?_)).trans d3, d4⟩
              subst e0
              have := r.dist id _ (inm j) id _ id g hh' hmem hh' List.mem_cons_self (by rw [d1]; rfl) (by rw [e1]; rfl)
              exact (hnn j (List.getElem?_eq_some_iff.1 hj).1 ho).1 this.2
          · cases hd'
            exact absurd rfl ej
      · rw [Array.getElem?_modify] at hj hj'
        have key : ∀ (j : Nat) (e' : MapEntry), (if n = j then ents[j]?.map (fun e => { e with key := k, val := a.eval y }) else ents[j]?) = some e' → ∃ e0, ents[j]? = some e0 ∧ e0.born = e'.born := by
          intro j e' hj
          split at hj
          · rw [Option.map_eq_some_iff] at hj
            obtain ⟨e0, h1, rfl⟩ := hj
            exact ⟨e0, h1, rfl⟩
          · exact ⟨e', hj, rfl⟩
        obtain ⟨a0, b0, c0⟩ := key j e' (by simpa using hj)
        obtain ⟨a1, b1, c1⟩ := key j' e'' (by simpa using hj')
        exact k5 j j' a0 a1 b0 b1 (by rw [c0, c1]; exact hbn)
      · obtain ⟨j, hj⟩ := List.getElem?_of_mem he'
        rw [Array.getElem?_toList, Array.getElem?_modify] at hj
        by_cases ej : n = j
        · subst ej
          rw [if_pos rfl, g1] at hj
          cases hj
          exact k6 e (List.mem_of_getElem? (by rw [Array.getElem?_toList]; exact g1))
        · rw [if_neg ej] at hj
          exact k6 e' (List.mem_of_getElem? (by rw [Array.getElem?_toList]; exact hj))
      · trivial
    · rcases List.mem_append.1 hm with e0 | e0
      · cases e0
      · obtain ⟨j, hj, ho, e0⟩ := mem_nxN.1 e0
        exact (hnn j hj ho).1 e0.symm
/-- stored at a new key: the row that was begun is lent by the map from here on -/
theorem LStep_updR0 {y : Operand} {nm l' kt' : Nat} (ho : o.op = .mapUpdate t x i y) (hd : o.dst = none) (hT : T.desc t = some (.map kt et)) (hK : T.keyD kt = some dk) (hx : evalA env x = .mp id) (hi : keyV (evalA env i) = some k) (hy : evalA env y = .own nm l') (hk : keyB dk k = true)
    (hh : hget h id = some (.nx kt' et ety sz rs none none)) (hb : ∀ p ∈ keysR rs, keyB dk p.1 = true) (hf : mat k (keysR rs) 0 = none) :
    LStep P O o env h [id] [] (.tup []) [(id, some (.nx kt' et ety sz (rs ++ [(k, [])]) (some (rs.length, nm, l')) none))] := by
  intro env' h' he hTs _ a w G r K Q hKK
  have h1 := evalA_rep r.env x
  have h2 := evalA_rep r.env i
  have h3 := evalA_rep r.env y
  rw [he x (by simp [ho, Op.operands]), hx] at h1
  rw [he i (by simp [ho, Op.operands])] at h2
  replace h2 := keyV_rep hi h2
  rw [he y (by simp [ho, Op.operands]), hy] at h3
  have hh' := (hTs id (by simp)).trans hh
  obtain ⟨b, ents, clock, e1, e2, q, f1, f2⟩ := nx_at r hh' hK hk hb
  rw [hf] at f2
  subst f2
  have hnn := fun (j : Nat) (hj : j < rs.length) => nx_names (r.obj id _ hh') hj rfl
  obtain ⟨b0, ents0, clock0, k1, k2, k3, k4, k5, k6, k7⟩ := r.obj id _ hh'
  obtain rfl : b = b0 := by rw [e1] at k1; cases k1; rfl
  rw [e2] at k2
  cases k2
  generalize hv : a.eval x = xv at h1
  cases h1 with
  | mp _ b' hb' =>
    obtain rfl : b = b' := by rw [e1] at hb'; cases hb'; rfl
    generalize hob : putObj ents clock k (a.eval y) none = ob
    have hs := heap_set (o' := ob) e2
    have hrun : (execOp a.eval o).run P w = .ok .skip { w with heap := w.heap.setIfInBounds b ob } := by
      have hfin : (Instr.mapUpdate t (.map (some b)) k (a.eval y)).run P w = .ok () { w with heap := w.heap.setIfInBounds b ob } := by
        rw [← hob]
        simp [putObj, Instr.mapUpdate, run_underlying (T.desc_ok hT), Go.MapKept.run_getObj_map e2, chk_run hK hk, f1, run_setObj_map _ e2, Result.andThen]
      simp [execOp, ho, hv, h2, hfin]
    have hext : Ext (fun n => n = b) w { w with heap := w.heap.setIfInBounds b ob } := ⟨rfl, rfl, rfl, by simp, fun n _ hne => hs.2 n hne, Nat.le_refl _⟩
    have hown : XX O h' G b := .inr ⟨id, _, hh', id, List.mem_cons_self, by rw [e1]; rfl⟩
    have hnm : names (.nx kt' et ety sz (rs ++ [(k, [])]) (some (rs.length, nm, l')) none) = names (.nx kt' et ety sz rs none none) := by
      show itN none ++ nxN (rs ++ [(k, [])]).length (some (rs.length, nm, l')) = itN none ++ nxN rs.length none
      congr 1
      unfold nxN
      rw [List.length_append, List.length_singleton, List.range_succ, List.filter_append]
      have e1 : (List.range rs.length).filter (fun i => !offD (some (rs.length, nm, l')) i) = (List.range rs.length).filter (fun i => !offD none i) := by
        refine List.filter_congr (fun j hj => ?_)
        have hj := List.mem_range.1 hj
        unfold offD
        dsimp only
        cases hq : Nat.beq rs.length j with
        | false => rfl
        | true => have := Nat.eq_of_beq_eq_true hq; omega
      have e2 : [rs.length].filter (fun i => !offD (some (rs.length, nm, l')) i) = [] := by
        unfold offD
        simp
      rw [e1, e2, List.append_nil]
    have hX : ∀ n0, n0 < w.heap.size → XX O ((id, some (.nx kt' et ety sz (rs ++ [(k, [])]) (some (rs.length, nm, l')) none)) :: h') G n0 → XX O h' G n0 := fun n0 _ hc => Rel.turnX (o' := .nx kt' et ety sz (rs ++ [(k, [])]) (some (rs.length, nm, l')) none) hh' hnm hc
    have hr : ∀ {z : AV} {u : Value}, Rep w (XX O h' G) G z u → Rep { w with heap := w.heap.setIfInBounds b ob } (XX O ((id, some (.nx kt' et ety sz (rs ++ [(k, [])]) (some (rs.length, nm, l')) none)) :: h') G) G z u :=
      fun hz => hz.ext hext (fun n _ hc => by subst hc; exact hown) hX (GStep.refl G)
    have hdd : ∀ {z : D} {u : Value}, RepD w (XX O h' G) z u → RepD { w with heap := w.heap.setIfInBounds b ob } (XX O ((id, some (.nx kt' et ety sz (rs ++ [(k, [])]) (some (rs.length, nm, l')) none)) :: h') G) z u :=
      fun hz => hz.ext hext (fun n _ hc => by subst hc; exact hown) hX
    refine wp_skipped hrun (hKK undef _ G ?_)
    rw [hd]
    refine r.turn hh' hext (fun n _ hc => ⟨id, List.mem_cons_self, by subst hc; rw [e1]; rfl⟩) (GStep.refl G) (fun _ _ => ⟨rfl, rfl⟩) (fun _ => rfl) hnm (fun _ h _ => h) ?_ (fun _ h => .inr h) (fun hm => ?_)
    · have key : ∀ (j : Nat) (e' : MapEntry), (ents.push { key := k, val := a.eval y, born := clock })[j]? = some e' → (ents[j]? = some e' ∧ j < rs.length) ∨ (j = rs.length ∧ e' = { key := k, val := a.eval y, born := clock }) := by
        intro j e' hj
        rcases Nat.lt_trichotomy j ents.size with hlt | he | hgt
        · rw [Array.getElem?_push_lt hlt] at hj
          exact .inl ⟨by rw [← hj, Array.getElem?_eq_getElem], by omega⟩
        · subst he
          rw [Array.getElem?_push_size] at hj
          cases hj
          exact .inr ⟨k3, rfl⟩
        · rw [Array.getElem?_eq_none (by simp; omega)] at hj; cases hj
      refine ⟨b, ents.push { key := k, val := a.eval y, born := clock }, clock + 1, e1, by rw [← show ob = .map (ents.push { key := k, val := a.eval y, born := clock }) (clock + 1) from hob.symm]; exact hs.1, by simp [k3], fun j k' r' e' hj he' => ?_, fun j j' e' e'' hj hj' hbn => ?_, fun e' he' => ?_, trivial⟩
      · rcases key j e' he' with ⟨he', hlt⟩ | ⟨ej, e0⟩
        · rw [List.getElem?_append_left hlt] at hj
          obtain ⟨a0, a1, a2⟩ := k4 j k' r' e' hj he'
          refine ⟨a0, fun ho => ?_, fun j' n' hd' => ?_⟩
          · obtain ⟨b1, b2, c1, c2, c3, xs, c4, c5⟩ := a1 rfl
            have hmem : inm j ∈ id :: names (.nx kt' et ety sz rs none none) := List.mem_cons_of_mem _ (List.mem_append_right _ (mem_nxN.2 ⟨j, hlt, rfl, rfl⟩))
            refine ⟨b1, b2, c1, c2, c3, xs, ⟨c4.1, ?_⟩, fun i e hi j x hj => let ⟨v, e1, e2⟩ := c5 i e hi j x hj; ⟨v, e1, hdd e2⟩⟩
            rcases c4.2 with e | ⟨g, cap, cur, d1, d2, d3, d4⟩
            · exact .inl e
            · refine .inr ⟨g, cap, cur, d1, d2, (hext.block g (heap_lt d3) (fun e0 => ?_)).trans d3, d4⟩
              subst e0
              have := r.dist id _ (inm j) id _ id g hh' hmem hh' List.mem_cons_self (by rw [d1]; rfl) (by rw [e1]; rfl)
              exact (hnn j hlt).1 this.2
          · cases hd'
            omega
        · subst ej
          rw [List.getElem?_append_right (Nat.le_refl _), Nat.sub_self, List.getElem?_cons_zero] at hj
          cases hj
          subst e0
          refine ⟨rfl, fun ho => ?_, fun j' n' hd' => ?_⟩
          · unfold offD at ho
            simp at ho
          · cases hd'
            exact hr h3
      · rcases key j e' hj with ⟨a1, a2⟩ | ⟨a1, a2⟩ <;> rcases key j' e'' hj' with ⟨b1, b2⟩ | ⟨b1, b2⟩
        · exact k5 j j' e' e'' a1 b1 hbn
        · have := k6 e' (List.mem_of_getElem? (by rw [Array.getElem?_toList]; exact a1))
          rw [hbn, b2] at this
          exact absurd this (Nat.lt_irrefl _)
        · have := k6 e'' (List.mem_of_getElem? (by rw [Array.getElem?_toList]; exact b1))
          rw [← hbn, a2] at this
          exact absurd this (Nat.lt_irrefl _)
        · omega
      · rw [Array.toList_push, List.mem_append] at he'
        rcases he' with he' | he'
        · exact Nat.lt_succ_of_lt (k6 e' he')
        · rw [List.mem_singleton] at he'
          subst he'
          exact Nat.lt_succ_self _
    · rcases List.mem_append.1 hm with e0 | e0
      · cases e0
      · obtain ⟨j, hj, ho, e0⟩ := mem_nxN.1 e0
        exact (hnn j hj).1 e0.symm
/-! ### a loop over such a map -/
theorem Rel.iterR {a : Act} {w : World} {G : Ctx} (r : Rel O env h a w G) (hh : hget h m = some (.nx kt et ety sz rs none none)) (hf : freshAt id env h) (hid : id ∉ O.ids) {b clock : Nat} {ents : Array MapEntry} (hb : G.m m = .map (some b)) (hw : w.heap[b]? = some (.map ents clock)) :
    Rel O env ((m, some (.nx kt et ety sz rs none (some (id, rs.map (·.1), none)))) :: h) a (w.alloc (.mapIter (some b) clock #[] clock)) (G.set id (.pointer (some ⟨w.heap.size, 0, none⟩)) 0) := by
  generalize hob : Obj.mapIter (some b) clock #[] clock = ob
  obtain ⟨hf1, hf2, hf3⟩ := hf
  generalize hmv : Value.pointer (some ⟨w.heap.size, 0, none⟩) = mv
  generalize hO1 : AObj.nx kt et ety sz rs none (some (id, rs.map (·.1), none)) = o1
  have hnm : names o1 = id :: nxN rs.length none := by subst hO1; rfl
  have hbm : blk mv = some w.heap.size := by subst hmv; rfl
  have he : Ext (fun _ => False) w (w.alloc ob) := Ext.alloc _ w ob
  have hne : ∀ j o', hget h j = some o' → j ≠ id := fun j o' h1 e => by subst e; rw [hf3] at h1; cases h1
  have hmid : m ≠ id := hne m _ hh
  have hmj : ∀ j o', hget h j = some o' → ∀ q ∈ j :: names o', (G.set id mv 0).m q = G.m q := fun j o' h1 q hq => by
    rcases List.mem_cons.1 hq with e | e
    · subst e; exact G.set_m_ne _ _ (hne _ o' h1)
    · exact G.set_m_ne _ _ (names_ne (hf2 j o' h1) e)
  have conv : ∀ j o', hget ((m, some o1) :: h) j = some o' → ∀ q ∈ j :: names o', (j = m ∧ q = id) ∨ ∃ o0, hget h j = some o0 ∧ q ∈ j :: names o0 ∧ (j ≠ m → o' = o0) := by
    intro j o' h1 q hq
    rw [hget_cons] at h1
    by_cases e : m = j
    · subst e
      rw [if_pos rfl] at h1
      cases h1
      rw [hnm] at hq
      rcases List.mem_cons.1 hq with e | e
      · subst e; exact .inr ⟨_, hh, List.mem_cons_self, fun e => absurd rfl e⟩
      · rcases List.mem_cons.1 e with e | e
        · exact .inl ⟨rfl, e⟩
        · exact .inr ⟨_, hh, List.mem_cons_of_mem _ (List.mem_append_right _ e), fun e => absurd rfl e⟩
    · rw [if_neg e] at h1
      exact .inr ⟨o', h1, hq, fun _ => rfl⟩
  have hO : ∀ c, Own ((m, some o1) :: h) (G.set id mv 0) c → c = w.heap.size ∨ Own h G c := by
    intro c ⟨j, o', h1, q, hq, hc⟩
    rcases conv j o' h1 q hq with ⟨_, e⟩ | ⟨o0, g1, g2, _⟩
    · subst e
      rw [G.set_m, hbm] at hc
      exact .inl (by simpa using hc.symm)
    · rw [hmj j o0 g1 q g2] at hc
      exact .inr ⟨j, o0, g1, q, g2, hc⟩
  have hX : ∀ c, c < w.heap.size → XX O ((m, some o1) :: h) (G.set id mv 0) c → XX O h G c := by
    intro c hc hx
    rcases hx with hx | hx
    · exact .inl hx
    · rcases hO c hx with e | e
      · omega
      · exact .inr e
  have hrep : ∀ {z : AV} {v : Value}, fresh id z = true → Rep w (XX O h G) G z v → Rep (w.alloc ob) (XX O ((m, some o1) :: h) (G.set id mv 0)) (G.set id mv 0) z v :=
    fun hx hr => (hr.setFresh mv 0 hx).ext he (fun _ _ h => h.elim) hX (GStep.refl _)
  have old : ∀ j oj q c, hget h j = some oj → q ∈ j :: names oj → blk (G.m q) = some c → c < w.heap.size := fun j oj q c hj hq e => (r.obj j oj hj).lt hq e
  refine ⟨r.size, r.dfr, fun t => hrep (hf1 t) (r.env t), fun j o' h1 => ?_, fun j p1 q j' p2 q' c h1 hq h2 hq' e1 e2 => ?_, r.ext.transNew he (fun _ _ h => h.elim), fun c hc hlt => ?_, r.xlt, fun j hj => ?_⟩
  · rw [hget_cons] at h1
    by_cases e : m = j
    · subst e
      rw [if_pos rfl] at h1
      cases h1
      subst hO1
      have h2 := freshO_rep mv 0 (hf2 m _ hh) hmid (r.obj m _ hh)
      obtain ⟨b', ents', clock', g1, g2, g3, g4, g5, g6, _⟩ := h2.ext he (X' := XX O ((m, some (.nx kt et ety sz rs none (some (id, rs.map (·.1), none)))) :: h) (G.set id mv 0)) (G' := G.set id mv 0) (fun _ _ h => h.elim) hX (fun hr => hr.ext he (fun _ _ h => h.elim) hX (GStep.refl _)) (fun _ _ => ⟨rfl, rfl⟩) (fun _ _ _ _ h => h)
      have hbb : b' = b := by rw [G.set_m_ne _ _ hmid, hb] at g1; cases g1; rfl
      subst hbb
      have hw' : (w.alloc ob).heap[b']? = some (.map ents clock) := (Below.heap_alloc w ob b' (heap_lt hw)).trans hw
      rw [hw'] at g2
      cases g2
      refine ⟨b', ents, clock, g1, hw', g3, g4, g5, g6, w.heap.size, #[], by rw [G.set_m]; exact hmv.symm, by rw [← hob]; exact (heap_alloc w _).1, fun e he => ⟨fun _ => ?_, fun _ => by simp⟩, fun k hk => ?_, fun k hk => by cases hk⟩
      · obtain ⟨n, hn⟩ := List.getElem?_of_mem he
        rw [Array.getElem?_toList] at hn
        have hlt : n < rs.length := by rw [← g3]; exact (Array.getElem?_eq_some_iff.1 hn).1
        have := g4 n rs[n].1 rs[n].2 e (by rw [List.getElem?_eq_getElem hlt]) hn
        rw [this.1]
        exact List.mem_map.2 ⟨rs[n], List.getElem_mem hlt, rfl⟩
      · obtain ⟨p, hp, rfl⟩ := List.mem_map.1 hk
        obtain ⟨n, hn⟩ := List.getElem?_of_mem hp
        have hlt : n < ents.size := by rw [g3]; exact (List.getElem?_eq_some_iff.1 hn).1
        have := g4 n p.1 p.2 ents[n] hn (by rw [Array.getElem?_eq_getElem hlt])
        exact ⟨ents[n], by simp, this.1⟩
    · rw [if_neg e] at h1
      have h2 := freshO_rep mv 0 (hf2 j o' h1) (hne j o' h1) (r.obj j o' h1)
      exact h2.ext he (fun _ _ h => h.elim) hX (fun hr => hr.ext he (fun _ _ h => h.elim) hX (GStep.refl _)) (fun _ _ => ⟨rfl, rfl⟩) (fun _ _ _ _ h => h)
  · rcases conv j p1 h1 q hq with ⟨f1, f2⟩ | ⟨o0, g1, g2, _⟩ <;> rcases conv j' p2 h2 q' hq' with ⟨f1', f2'⟩ | ⟨o0', g1', g2', _⟩
    · exact ⟨f1.trans f1'.symm, f2.trans f2'.symm⟩
    · subst f2
      rw [G.set_m, hbm] at e1
      rw [hmj j' o0' g1' q' g2'] at e2
      have := old j' o0' q' c g1' g2' e2
      cases e1
      omega
    · subst f2'
      rw [G.set_m, hbm] at e2
      rw [hmj j o0 g1 q g2] at e1
      have := old j o0 q c g1 g2 e1
      cases e2
      omega
    · rw [hmj j o0 g1 q g2] at e1
      rw [hmj j' o0' g1' q' g2'] at e2
      exact r.dist j o0 q j' o0' q' c g1 g2 g1' g2' e1 e2
  · rcases hO c hc with e | e
    · subst e
      have := r.ext.size
      omega
    · exact r.own c e hlt
  · rw [G.set_m_ne _ _ (fun e => by subst e; exact hid hj)]
    exact r.ids j hj

theorem LStep_rangeR (ho : o.op = .range t x) (hd : o.dst = some id) (hn : dstOk (some id) O.nt = true) (hi : O.ids.contains id = false) (hT : T.desc t = some (.map kt et)) (hx : evalA env x = .mp m) (hh : hget h m = some (.nx kt et ety sz rs none none)) :
    LStep P O o env h [m] [id] (.it id) [(m, some (.nx kt et ety sz rs none (some (id, rs.map (·.1), none))))] := by
  intro env' h' he hTs hf a w G r K Q hK
  have hid : id ∉ O.ids := by simpa using hi
  have h1 := evalA_rep r.env x
  rw [he x (by simp [ho, Op.operands]), hx] at h1
  have hh' := (hTs m (by simp)).trans hh
  obtain ⟨b, ents, clock, e1, e2, _⟩ := r.obj m _ hh'
  generalize hv : a.eval x = xv at h1
  cases h1 with
  | mp _ b' hb' =>
    obtain rfl : b = b' := by rw [e1] at hb'; cases hb'; rfl
    have hrun : (execOp a.eval o).run P w = .ok (.value (.pointer (some ⟨w.heap.size, 0, none⟩))) (w.alloc (.mapIter (some b) clock #[] clock)) := by
      simp [execOp, ho, hv, run_range_map w t kt et b ents clock (T.desc_ok hT) e2]
    have hf' := hf id (by simp)
    have r2 := r.iterR hh' hf' hid e1 e2
    exact wp_value hrun (hK _ _ _ (r2.put (by rw [hd]; exact hn) (.it id w.heap.size (G.set_m _ _ _))))

theorem key_injR {ents : Array MapEntry} (hs : ents.size = rs.length) (hk : (rs.map (·.1)).Nodup) (h4 : ∀ (i : Nat) (k : Value) (c : List (List D)) (e : MapEntry), rs[i]? = some (k, c) → ents[i]? = some e → e.key = k)
    {n j : Nat} {e e' : MapEntry} (h1 : ents[n]? = some e) (h2 : ents[j]? = some e') (he : e.key = e'.key) : n = j := by
  have l1 : n < rs.length := by rw [← hs]; exact (Array.getElem?_eq_some_iff.1 h1).1
  have l2 : j < rs.length := by rw [← hs]; exact (Array.getElem?_eq_some_iff.1 h2).1
  have a1 := h4 n rs[n].1 rs[n].2 e (by rw [List.getElem?_eq_getElem l1]) h1
  have a2 := h4 j rs[j].1 rs[j].2 e' (by rw [List.getElem?_eq_getElem l2]) h2
  have hp := List.nodup_iff_pairwise_ne.1 hk
  exact (List.getElem_inj (h₀ := by simpa using l1) (h₁ := by simpa using l2) hk).1 (by simp only [List.getElem_map]; rw [← a1, ← a2, he])

theorem Es_nextR {todo : List Value} {cur : Option Value} {t i : Nat} (m : Nat) (ho : o.op = .next x false) (hw : wantedA all env o = some true) (hd : o.dst = some t) (hn : dstOk (some t) O.nt = true) (hx : evalA env x = .it i)
    (hh : hget h m = some (.nx kt et ety sz rs none (some (i, todo, cur)))) (hk : (rs.map (·.1)).Nodup) (ht : todo.Nodup) (K0 : todo = [] → EvS P O all rest ((t, .tup [.d (.sc (.bool false))]) :: env) h Q)
    (K1 : ∀ pre k post, todo = pre ++ k :: post → EvS P O all rest ((t, .tup [.d (.sc (.bool true)), .any, .any]) :: env) ((m, some (.nx kt et ety sz rs none (some (i, pre ++ post, some k)))) :: h) Q) : EvS P O all (o :: rest) env h Q := by
  intro a w G r
  unfold wpList
  rw [if_pos (wantedA_ok r hw)]
  refine .inl ?_
  have h1 := evalA_rep r.env x
  rw [hx] at h1
  obtain ⟨b, ents, clock, e1, e2, e3, e4, e5, e6, ib, stamps, q1, q2, q3, q4, _⟩ := r.obj m _ hh
  generalize hv : a.eval x = xv at h1
  cases h1 with
  | it _ ib' hib =>
    obtain rfl : ib = ib' := by rw [q1] at hib; cases hib; rfl
    rcases run_next_at (P := P) w o.type ib b clock clock stamps ents clock q2 e2 e6 (Nat.le_refl _) with ⟨f1, f2⟩ | ⟨e, f1, w1, f2, f3⟩
    · have h0 : todo = [] := by
        cases todo with
        | nil => rfl
        | cons k l =>
          obtain ⟨e, g1, g2⟩ := q4 k (by simp)
          have := (q3 e g1).2 (by rw [g2]; simp)
          have hm : e ∈ leftOf ents stamps := Array.mem_filter.2 ⟨Array.mem_toList_iff.1 g1, by rw [this]; rfl⟩
          have := Array.size_pos_of_mem hm
          omega
      refine wp_value (v := .tuple #[.bool false]) (w' := w) (by simp [execOp, ho, hv, f2]) ?_
      have r1 := r.put (d := o.dst) (av := .tup [.d (.sc (.bool false))]) (v := .tuple #[.bool false]) (by rw [hd]; exact hn) (.tup _ _ rfl (fun n c v hc hv => by
        match n, hc, hv with
        | 0, hc, hv => cases hc; cases hv; exact .d _ _ (.sc _ rfl)))
      rw [hd] at r1 ⊢
      exact K0 h0 _ _ _ r1
    · obtain ⟨m1, m2⟩ := mem_left f1
      have hkt := (q3 e m1).1 m2
      obtain ⟨pre, post, rfl⟩ := List.append_of_mem hkt
      have rd : Rel O env h a w1 G := by
        rcases f2 with rfl | rfl
        · exact r
        · exact r.drew
      have hh1 : w1.heap = w.heap := by rcases f2 with rfl | rfl <;> rfl
      refine wp_value (v := .tuple #[.bool true, e.key, e.val]) (w' := ChangeMaps.setBlock w1 ib (.mapIter (some b) clock (stamps.push e.born) clock)) (by simp [execOp, ho, hv, f3]) ?_
      generalize hob : Obj.mapIter (some b) clock (stamps.push e.born) clock = ob
      have hs := heap_set (o' := ob) (hh1 ▸ q2)
      have hneb : ib ≠ b := by intro e0; rw [e0, e2] at q2; cases q2
      have hnem : m ≠ i := by intro e0; subst e0; rw [e1] at q1; cases q1
      have hext : Ext (fun n => n = ib) w1 (ChangeMaps.setBlock w1 ib ob) := ⟨rfl, rfl, rfl, by simp [ChangeMaps.setBlock], fun n _ hne => hs.2 n hne, Nat.le_refl _⟩
      have hown : XX O h G ib := .inr ⟨m, _, hh, i, List.mem_cons_of_mem _ (List.mem_append_left _ (by simp [itN])), by rw [q1]; rfl⟩
      have hX : ∀ n, n < w1.heap.size → XX O ((m, some (.nx kt et ety sz rs none (some (i, pre ++ post, some e.key)))) :: h) G n → XX O h G n := fun n _ hc => Rel.turnX (o' := .nx kt et ety sz rs none (some (i, pre ++ post, some e.key))) hh rfl hc
      obtain ⟨n0, hn0⟩ := List.getElem?_of_mem m1
      rw [Array.getElem?_toList] at hn0
      have hnd : ∀ k, k ∈ pre ++ post → k ≠ e.key := by
        intro k hk e0
        subst e0
        rw [List.nodup_append] at ht
        rcases List.mem_append.1 hk with hp | hp
        · exact ht.2.2 _ hp _ (by simp) rfl
        · exact (List.nodup_cons.1 ht.2.1).1 hp
      have r1 : Rel O env ((m, some (.nx kt et ety sz rs none (some (i, pre ++ post, some e.key)))) :: h) a (ChangeMaps.setBlock w1 ib ob) G := by
        refine rd.turn hh hext (fun n _ hc => ⟨i, List.mem_cons_of_mem _ (List.mem_append_left _ (by simp [itN])), by subst hc; rw [q1]; rfl⟩) (GStep.refl G) (fun _ _ => ⟨rfl, rfl⟩) (fun _ => rfl) rfl (fun _ h _ => h) ?_ (fun _ h => .inr h) (fun hm => by
          rcases List.mem_append.1 hm with e0 | e0
          · exact hnem (by simpa [itN] using e0)
          · obtain ⟨j, hj, ho, e0⟩ := mem_nxN.1 e0
            exact (nx_names (r.obj m _ hh) hj ho).1 e0.symm)
        have hbase : ObjRep w1 (XX O h G) G m (.nx kt et ety sz rs none none) := by
          obtain ⟨b0, ents0, clock0, c1, c2, c3, c4, c5, c6, _⟩ := rd.obj m _ hh
          exact ⟨b0, ents0, clock0, c1, c2, c3, c4, c5, c6, trivial⟩
        obtain ⟨b0, ents0, clock0, z1, z2, z3, z4, _⟩ := hbase.ext (X' := XX O ((m, some (.nx kt et ety sz rs none (some (i, pre ++ post, some e.key)))) :: h) G) (G' := G) hext (fun n _ hc => by subst hc; exact hown) hX (fun hr => hr.ext hext (fun n _ hc => by subst hc; exact hown) hX (GStep.refl G)) (fun _ _ => ⟨rfl, rfl⟩) (fun j c hj hb' hc => by
          subst hc
          have hmj : j ∈ m :: names (.nx kt et ety sz rs none (some (i, pre ++ e.key :: post, cur))) := by
            rcases List.mem_cons.1 hj with e0 | e0
            · rw [e0]; exact List.mem_cons_self
            · rcases List.mem_append.1 e0 with e0 | e0
              · cases e0
              · exact List.mem_cons_of_mem _ (List.mem_append_right _ e0)
          have := (r.dist m _ j m _ i c hh hmj hh (List.mem_cons_of_mem _ (List.mem_append_left _ (by simp [itN]))) hb' (by rw [q1]; rfl)).2
          rcases List.mem_cons.1 hj with e0 | e0
          · exact hnem (e0.symm.trans this)
          · rcases List.mem_append.1 e0 with e0 | e0
            · cases e0
            · obtain ⟨n, hn, ho, e0⟩ := mem_nxN.1 e0
              exact (nx_names (r.obj m _ hh) hn ho).2 (by rw [← e0, this]; simp [itN]))
        rw [e1] at z1
        cases z1
        have z2' : some (Obj.map ents clock) = some (Obj.map ents0 clock0) := ((hs.2 b (fun e0 => hneb e0.symm)).trans (hh1 ▸ e2)).symm.trans z2
        cases z2'
        refine ⟨b, ents, clock, e1, (hs.2 b (fun e0 => hneb e0.symm)).trans (hh1 ▸ e2), e3, z4, e5, e6, ib, stamps.push e.born, q1, by rw [hob]; exact hs.1, fun e' he' => ?_, fun k hk => q4 k (by
          rcases List.mem_append.1 hk with hp | hp
          · exact List.mem_append_left _ hp
          · exact List.mem_append_right _ (List.mem_cons_of_mem _ hp)), fun k hk' => ?_⟩
        · obtain ⟨n1, hn1⟩ := List.getElem?_of_mem he'
          rw [Array.getElem?_toList] at hn1
          rw [contains_push, Bool.or_eq_false_iff]
          by_cases hbe : e'.born = e.born
          · have : n1 = n0 := e5 n1 n0 e' e hn1 hn0 hbe
            subst this
            rw [hn0] at hn1
            cases hn1
            exact ⟨fun h => by simp at h, fun h => absurd rfl (hnd _ h)⟩
          · have hne : e'.key ≠ e.key := by
              intro e0
              have : n1 = n0 := key_injR e3 hk (fun n k c e g1 g2 => (e4 n k c e g1 g2).1) hn1 hn0 e0
              subst this
              rw [hn0] at hn1
              cases hn1
              exact hbe rfl
            have := q3 e' he'
            constructor
            · rintro ⟨g1, _⟩
              have := this.1 g1
              rcases List.mem_append.1 this with hp | hp
              · exact List.mem_append_left _ hp
              · rcases List.mem_cons.1 hp with hp | hp
                · exact absurd hp hne
                · exact List.mem_append_right _ hp
            · intro hp
              refine ⟨this.2 ?_, by simpa using hbe⟩
              rcases List.mem_append.1 hp with hp | hp
              · exact List.mem_append_left _ hp
              · exact List.mem_append_right _ (List.mem_cons_of_mem _ hp)
        · cases hk'
          exact ⟨e, m1, rfl, stamps, rfl⟩
      have r2 := r1.put (d := o.dst) (av := .tup [.d (.sc (.bool true)), .any, .any]) (v := .tuple #[.bool true, e.key, e.val]) (by rw [hd]; exact hn) (.tup _ _ rfl (fun n c v hc hv => by
        match n, hc, hv with
        | 0, hc, hv => cases hc; cases hv; exact .d _ _ (.sc _ rfl)
        | 1, hc, hv => cases hc; exact .any _
        | 2, hc, hv => cases hc; exact .any _))
      rw [hd] at r2 ⊢
      exact K1 pre e.key post rfl _ _ _ r2

/-- The round's key, and its row, lent out. -/
theorem LStep_entryR {todo : List Value} {i n nm : Nat} {kav : AV} {row : List (List D)} (m : Nat) (hc : rs[n]? = some (k, row)) (ho : o.op = .entry x) (hd : dstOk o.dst O.nt = true) (hx : evalA env x = .it i) (hh : hget h m = some (.nx kt et ety sz rs none (some (i, todo, some k)))) (hk : (rs.map (·.1)).Nodup)
    (hq : ∀ w X G, Rep w X G kav k) (hnm : Nat.blt nm 1000000 = true) (hids : O.ids.contains nm = false) :
    LStep P O o env h [m] [nm] (.tup [kav, .own nm row.length]) [(m, some (.nx kt et ety sz rs (some (n, nm, row.length)) (some (i, todo, some k)))), (nm, some (.arr ety sz row))] := by
  intro env' h' he ht hNs a w G r K Q hKK
  have h1 := evalA_rep r.env x
  rw [he x (by simp [ho, Op.operands]), hx] at h1
  have hh' := (ht m (by simp)).trans hh
  obtain ⟨b, ents, clock, e1, e2, e3, e4, e5, e6, ib, stamps, q1, q2, q3, q4, q5⟩ := r.obj m _ hh'
  have r' := r.lend hh' hc (hNs nm (by simp)) (by simpa using hnm) (by simpa using hids)
  generalize hv : a.eval x = xv at h1
  cases h1 with
  | it _ ib' hib =>
    obtain rfl : ib = ib' := by rw [q1] at hib; cases hib; rfl
    obtain ⟨e, m1, hek, s, rfl⟩ := q5 k rfl
    obtain ⟨n0, hn0⟩ := List.getElem?_of_mem m1
    rw [Array.getElem?_toList] at hn0
    have l1 : n < ents.size := by rw [e3]; exact (List.getElem?_eq_some_iff.1 hc).1
    have hk1 := (e4 n k row ents[n] hc (by rw [Array.getElem?_eq_getElem l1])).1
    have : n0 = n := key_injR e3 hk (fun n k c e g1 g2 => (e4 n k c e g1 g2).1) hn0 (by rw [Array.getElem?_eq_getElem l1]) (hek.trans hk1.symm)
    subst this
    have hnd : (ents.toList.map (·.born)).Nodup := by
      rw [List.nodup_iff_pairwise_ne, List.pairwise_map, List.pairwise_iff_getElem]
      intro i j hi hj hlt e0
      have := e5 i j ents.toList[i] ents.toList[j] (by rw [← Array.getElem?_toList, List.getElem?_eq_getElem hi]) (by rw [← Array.getElem?_toList, List.getElem?_eq_getElem hj]) e0
      omega
    have hne : m ≠ nm := fun e0 => by
      have := (hNs nm (by simp)).2.2
      rw [← e0, hh'] at this
      cases this
    obtain ⟨b', ents', clock', k1, k2, _, k4, _⟩ := r'.obj m _ (by rw [hget_cons, if_pos rfl])
    rw [G.set_m_ne _ _ hne, e1] at k1
    cases k1
    rw [e2] at k2
    cases k2
    have hval := (k4 n0 k row e hc hn0).2.2 nm row.length rfl
    refine wp_value (v := .tuple #[e.key, e.val]) (w' := w) (by simp [execOp, ho, hv, run_entry_at w ib b clock s ents clock e q2 e2 m1 hnd]) (hKK _ w _ (r'.put hd (.tup _ _ rfl (fun j c' v hc hv => ?_))))
    match j, hc, hv with
    | 0, hc, hv => cases hc; cases hv; rw [hek]; exact hq _ _ _
    | 1, hc, hv => cases hc; cases hv; exact hval
/-- The loop is forgotten. -/
theorem AW_noItR {c : Code} (id : Nat) {q : Nat × List Value × Option Value} (hh : hget h id = some (.nx kt et ety sz rs none (some q))) (H : AW P O c Q env ((id, some (.nx kt et ety sz rs none none)) :: h)) : AW P O c Q env h := by
  intro a w G r
  have conv : ∀ j o' q, hget ((id, some (.nx kt et ety sz rs none none)) :: h) j = some o' → q ∈ j :: names o' → ∃ o0, hget h j = some o0 ∧ q ∈ j :: names o0 := by
    intro j o' q hj hq
    rw [hget_cons] at hj
    by_cases e : id = j
    · rw [if_pos e] at hj
      cases hj
      subst e
      refine ⟨_, hh, ?_⟩
      rcases List.mem_cons.1 hq with e | e
      · rw [e]; exact List.mem_cons_self
      · rcases List.mem_append.1 e with e | e
        · cases e
        · exact List.mem_cons_of_mem _ (List.mem_append_right _ e)
    · rw [if_neg e] at hj
      exact ⟨o', hj, hq⟩
  have hO : ∀ b, Own ((id, some (.nx kt et ety sz rs none none)) :: h) G b → Own h G b := by
    rintro b ⟨j, o', hj, q, hq, hb⟩
    obtain ⟨o0, g1, g2⟩ := conv j o' q hj hq
    exact ⟨j, o0, g1, q, g2, hb⟩
  have hX : ∀ b, b < w.heap.size → XX O ((id, some (.nx kt et ety sz rs none none)) :: h) G b → XX O h G b := fun b _ hx => hx.imp (fun q => q) (hO b)
  refine H a w G ⟨r.size, r.dfr, fun t => (r.env t).ext (Ext.refl (fun _ => False) w) (fun _ _ h => h.elim) hX (GStep.refl G), fun j o' hj => ?_, fun j o1' q j' o2' q' b hj hq hj' hq' e1 e2 => ?_, r.ext, fun b hb => r.own b (hO b hb), r.xlt, r.ids⟩
  · rw [hget_cons] at hj
    by_cases e : id = j
    · rw [if_pos e] at hj
      cases hj
      subst e
      obtain ⟨b, ents, clock, e1, e2, e3, e4, e5, e6, _⟩ := (r.obj id _ hh).mono hX
      exact ⟨b, ents, clock, e1, e2, e3, e4, e5, e6, trivial⟩
    · rw [if_neg e] at hj
      exact (r.obj j o' hj).mono hX
  · obtain ⟨o0, g1, g2⟩ := conv j o1' q hj hq
    obtain ⟨o0', g1', g2'⟩ := conv j' o2' q' hj' hq'
    exact r.dist j o0 q j' o0' q' b g1 g2 g1' g2' e1 e2
end
end Go.SL
