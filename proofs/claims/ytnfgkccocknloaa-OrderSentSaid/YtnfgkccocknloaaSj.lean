/- The layer 'SL': own rows: made, read and written by index, made data; nil that begins to grow in a cell. -/
import Derived.Test.YtnfgkccocknloaaSi
import Derived.Laws.OwnMore
namespace Go.SL
open Go.RowKit

section
variable {P : Program} {O : Org} {T : Tab P} {Q : Exit → Env → Hp → Prop} {env : Env} {h : Hp} {o : Oper}

/-- an own row reads as data, where its block is no object any more -/
theorem own_sl {w : World} {X X' : Nat → Prop} {G : Ctx} {id ety sz : Nat} {es : List (List D)} (ho : ObjRep w X G id (.arr ety sz es)) (hX : ∀ b, b < w.heap.size → X' b → X b) (hid : ∀ b, blk (G.m id) = some b → ¬ X' b) : RepD w X' (.sl sz es) (G.m id) := by
  obtain ⟨h1, ⟨A, l, c, hm⟩, h3, xs, hown, h5⟩ := ho
  have hrow := hown
  rcases hown.2 with ⟨e1, e2⟩ | ⟨g, cap, cur, e1, _, e3, e4, e5, e6, e7⟩
  · rw [e1]
    have : es = [] := List.eq_nil_of_length_eq_zero e2
    subst this
    exact .sl sz [] none 0 0 0 0 (fun _ _ => undef) rfl (Nat.le_refl _) (fun h => absurd h (by omega)) (fun i e h => by simp at h) (fun i e h => by simp at h) (fun i e h => by simp at h)
  · rw [e1] at hid hrow ⊢
    have hv : ∀ (i : Nat) (e : List D), es[i]? = some e → ∀ (j : Nat) (x : D), e[j]? = some x → xs[i * sz + j]? = some (xs.getD (i * sz + j) undef) ∧ RepD w X x (xs.getD (i * sz + j) undef) := by
      intro i e hi j x hj
      obtain ⟨v, a1, a2⟩ := h5 i e hi j x hj
      rw [List.getD_eq_getElem?_getD, a1]
      exact ⟨rfl, a2⟩
    refine .sl sz es _ _ cap g 0 (fun i j => xs.getD (i * sz + j) undef) rfl e4 (fun _ => ⟨rfl, heap_lt e3, hid g rfl⟩) h3 (fun i e hi j x hj => ?_) (fun i e hi j x hj => (hv i e hi j x hj).2.ext (Ext.refl (fun _ => False) w) (fun _ _ h => h.elim) hX)
    have := hrow.cells (g := g) rfl _ _ (hv i e hi j x hj).1
    rw [Addr.add_lit] at this
    exact this

/-- The objects but one; its block is no object's any more. -/
theorem Rel.drop {O : Org} {env : Env} {h : Hp} {a : Act} {w : World} {G : Ctx} (r : Rel O env h a w G) {id : Nat} {ob : AObj} (hh : hget h id = some ob) :
    (∀ b, XX O ((id, none) :: h) G b → XX O h G b) ∧ (∀ b, blk (G.m id) = some b → ¬ O.X b → ¬ XX O ((id, none) :: h) G b) := by
  have hs : ∀ i o, hget ((id, none) :: h) i = some o → hget h i = some o ∧ id ≠ i := by
    intro i o ho
    rw [hget_cons] at ho
    by_cases e : id = i
    · rw [if_pos e] at ho; cases ho
    · rw [if_neg e] at ho; exact ⟨ho, e⟩
  refine ⟨fun b hb => hb.imp (fun h => h) (fun ho => ho.sub (fun i o h => (hs i o h).1)), fun b hb hx hb' => ?_⟩
  rcases hb' with h1 | ⟨i, o, h1, j, hj, h2⟩
  · exact hx h1
  · obtain ⟨h3, h4⟩ := hs i o h1
    exact h4 (r.dist id ob id i o j b hh List.mem_cons_self h3 hj hb h2).1
theorem Rel.xNot {O : Org} {env : Env} {h : Hp} {a : Act} {w : World} {G : Ctx} (r : Rel O env h a w G) {id : Nat} {ob : AObj} (hh : hget h id = some ob) {b : Nat} (hb : blk (G.m id) = some b) : ¬ O.X b := by
  intro hx
  obtain ⟨h1, h2⟩ := r.xlt b hx
  exact h2 (r.own b ⟨id, ob, hh, id, List.mem_cons_self, hb⟩ h1)

def LkAll (env : Env) (v : AV) : List Nat → Prop
  | [] => True
  | t :: ts => lk env t = v ∧ LkAll env v ts
theorem LkAll.mem {env : Env} {v : AV} : ∀ {ts : List Nat}, LkAll env v ts → ∀ t ∈ ts, lk env t = v
  | [], _, _, h => by simp at h
  | t :: ts, h, s, hs => by
    rcases List.mem_cons.1 hs with e | e
    · exact e ▸ h.1
    · exact h.2.mem s e
theorem lk_maps (v : AV) (ts : List Nat) (env : Env) (s : Nat) : lk (ts.map (fun t => (t, v)) ++ env) s = if s ∈ ts then v else lk env s := by
  induction ts with
  | nil => simp
  | cons t ts ih =>
    rw [List.map_cons, List.cons_append, lk_cons, ih]
    by_cases e : t = s
    · subst e; simp
    · rw [if_neg e]
      simp only [List.mem_cons]
      by_cases e2 : s ∈ ts
      · rw [if_pos e2, if_pos (.inr e2)]
      · rw [if_neg e2, if_neg (fun h => h.elim (fun x => e x.symm) e2)]
/-- An own row is written no more: it is data. -/
theorem AW_freeze {c : Code} (ts : List Nat) {id n e sz : Nat} {es : List (List D)} (hl : LkAll env (.own id n) ts) (hh : hget h id = some (.arr e sz es)) (hn : es.length = n)
    (H : AW P O c Q (ts.map (fun t => (t, .d (.sl sz es))) ++ env) ((id, none) :: h)) : AW P O c Q env h := by
  intro a w G r
  obtain ⟨d1, d2⟩ := r.drop hh
  have hob := r.obj id _ hh
  refine H a w G ⟨r.size, r.dfr, fun t => ?_, fun i o ho => ?_, fun i o j i' o' j' b h1 h2 h3 h4 => ?_, r.ext, fun b hb => r.own b ?_, r.xlt, r.ids⟩
  · rw [lk_maps]
    split
    · rename_i ht
      have hv := r.env t
      rw [hl.mem t ht] at hv
      generalize a.tmps.getD t undef = v at hv
      cases hv with
      | own _ _ _ _ _ _ hvv =>
        rw [hvv (by rw [hob.1, hn])]
        exact .d _ _ (own_sl hob (fun b _ hb => d1 b hb) (fun b hb => d2 b hb (r.xNot hh hb)))
    · exact (r.env t).ext (Ext.refl (fun _ => False) w) (fun _ _ h => h.elim) (fun b _ hb => d1 b hb) (GStep.refl G)
  · rw [hget_cons] at ho
    by_cases e : id = i
    · rw [if_pos e] at ho; cases ho
    · rw [if_neg e] at ho
      exact (r.obj i o ho).mono (fun b _ hb => d1 b hb)
  · rw [hget_cons] at h1 h3
    by_cases e : id = i
    · rw [if_pos e] at h1; cases h1
    · rw [if_neg e] at h1
      by_cases e' : id = i'
      · rw [if_pos e'] at h3; cases h3
      · rw [if_neg e'] at h3
        exact r.dist i o j i' o' j' b h1 h2 h3 h4
  · exact hb.sub (fun i o ho => by
      rw [hget_cons] at ho
      by_cases e : id = i
      · rw [if_pos e] at ho; cases ho
      · rw [if_neg e] at ho; exact ho)

/-- nil is a slice of nothing -/
theorem AW_nilD {c : Code} (sz : Nat) (t : Nat) (hl : lk env t = .d (.sc (.slice none 0 0))) (H : AW P O c Q ((t, .d (.sl sz [])) :: env) h) : AW P O c Q env h := by
  intro a w G r
  refine H a w G ⟨r.size, r.dfr, fun s => ?_, r.obj, r.dist, r.ext, r.own, r.xlt, r.ids⟩
  rw [lk_cons]
  by_cases e : t = s
  · subst e
    rw [if_pos rfl]
    have hv := r.env t
    rw [hl] at hv
    rw [hv.sc_inv]
    exact .d _ _ (.sl sz [] none 0 0 0 0 (fun _ _ => undef) rfl (Nat.le_refl _) (fun h => absurd h (by omega)) (fun i e h => by simp at h) (fun i e h => by simp at h) (fun i e h => by simp at h))
  · rw [if_neg e]; exact r.env s
theorem gRc (K : AW P O .ret Q env h) : AW P O .ret Q env h := K

/-- A cell of an own object holds something else that its value bears, too. -/
theorem AW_cell {c : Code} (i0 j : Nat) (x' : AV) {cs : List AV} {x : AV} (hh : hget h i0 = some (.cells cs)) (hj : cs[j]? = some x) (hx : ∀ {w : World} {X : Nat → Prop} {G : Ctx} {v : Value}, Rep w X G x v → Rep w X G x' v)
    (H : AW P O c Q env ((i0, some (.cells (cs.set j x'))) :: h)) : AW P O c Q env h := by
  intro a w G r
  have hX : ∀ b, XX O ((i0, some (.cells (cs.set j x'))) :: h) G b → XX O h G b := fun b hb => Rel.turnX (o' := .cells (cs.set j x')) hh rfl hb
  refine H a w G ⟨r.size, r.dfr, fun t => (r.env t).ext (Ext.refl (fun _ => False) w) (fun _ _ h => h.elim) (fun b _ hb => hX b hb) (GStep.refl G), fun i o ho => ?_, fun i o k i' o' k' b h1 h2 h3 h4 h5 h6 => ?_, r.ext, fun b hb => r.own b ?_, r.xlt, r.ids⟩
  · rw [hget_cons] at ho
    by_cases e : i0 = i
    · subst e
      rw [if_pos rfl] at ho
      cases ho
      obtain ⟨b, arr, ty, e1, e2, e3, e4⟩ := r.obj i0 _ hh
      refine ⟨b, arr, ty, e1, e2, by simpa using e3, fun k c v hc hv => ?_⟩
      rw [List.getElem?_set] at hc
      split at hc
      · rename_i ejk
        subst ejk
        split at hc
        · cases hc
          obtain ⟨q1, q2⟩ := e4 j x v hj hv
          exact ⟨(hx q1).ext (Ext.refl (fun _ => False) w) (fun _ _ h => h.elim) (fun b _ hb => hX b hb) (GStep.refl G), q2⟩
        · cases hc
      · obtain ⟨q1, q2⟩ := e4 k c v hc hv
        exact ⟨q1.ext (Ext.refl (fun _ => False) w) (fun _ _ h => h.elim) (fun b _ hb => hX b hb) (GStep.refl G), q2⟩
    · rw [if_neg e] at ho
      exact (r.obj i o ho).mono (fun b _ hb => hX b hb)
  · have hs : ∀ i o, hget ((i0, some (.cells (cs.set j x'))) :: h) i = some o → ∃ o2, hget h i = some o2 ∧ names o2 = names o := by
      intro i o ho
      rw [hget_cons] at ho
      by_cases e : i0 = i
      · subst e
        rw [if_pos rfl] at ho
        cases ho
        exact ⟨_, hh, rfl⟩
      · rw [if_neg e] at ho
        exact ⟨o, ho, rfl⟩
    obtain ⟨o2, g1, g2⟩ := hs i o h1
    obtain ⟨o3, g3, g4⟩ := hs i' o' h3
    exact r.dist i o2 k i' o3 k' b g1 (by rw [g2]; exact h2) g3 (by rw [g4]; exact h4) h5 h6
  · obtain ⟨i, o, h1, k, hk, h2⟩ := hb
    rw [hget_cons] at h1
    by_cases e : i0 = i
    · subst e
      rw [if_pos rfl] at h1
      cases h1
      exact ⟨i0, _, hh, k, hk, h2⟩
    · rw [if_neg e] at h1
      exact ⟨i, o, h1, k, hk, h2⟩
/-- nil in a cell is a slice of nothing -/
theorem AW_nilCell {c : Code} (sz i0 j : Nat) {cs : List AV} (hh : hget h i0 = some (.cells cs)) (hj : cs[j]? = some (.d (.sc (.slice none 0 0))))
    (H : AW P O c Q env ((i0, some (.cells (cs.set j (.d (.sl sz []))))) :: h)) : AW P O c Q env h :=
  AW_cell i0 j _ hh hj (fun hv => by
    rw [hv.sc_inv]
    exact .d _ _ (.sl sz [] none 0 0 0 0 (fun _ _ => undef) rfl (Nat.le_refl _) (fun h => absurd h (by omega)) (fun i e h => by simp at h) (fun i e h => by simp at h) (fun i e h => by simp at h))) H

/-- nil in a cell begins to grow -/
theorem AW_openCell {c : Code} (e sz i0 j id : Nat) {cs : List AV} (hh : hget h i0 = some (.cells cs)) (hj : cs[j]? = some (.d (.sc (.slice none 0 0)))) (h1 : freshE id env = true) (h2 : freshH id h = true) (hi : O.ids.contains id = false)
    (H : AW P O c Q env ((i0, some (.cells (cs.set j (.own id 0)))) :: (id, some (.arr e sz [])) :: h)) : AW P O c Q env h := by
  intro a w G r
  have hid : id ∉ O.ids := by simpa using hi
  have hne : i0 ≠ id := (freshH_get h2 i0 _ hh).2
  have r' := r.newG (w' := w) (Ext.refl _ w) (id := id) (mv := .slice none 0 0) (n := 0) (o := .arr e sz []) (freshAt_of h1 h2) hid rfl (fun b hb => by cases hb)
    ⟨G.set_len _ _ _, ⟨_, _, _, G.set_m _ _ _⟩, fun i e hi => by simp at hi, [], by rw [G.set_m]; exact World.ownsRow_nil w 0 e sz, fun i e hi => by simp at hi⟩
  have hh' : hget ((id, some (.arr e sz [])) :: h) i0 = some (.cells cs) := by rw [hget_cons, if_neg (fun e => hne e.symm)]; exact hh
  obtain ⟨b, arr, ty, e1, e2, e3, e4⟩ := r'.obj i0 _ hh'
  generalize hG' : G.set id (.slice none 0 0) 0 = G' at r' e1 e4
  have hGm : G'.m id = .slice none 0 0 := by rw [← hG']; exact G.set_m _ _ _
  have hGl : G'.len id = 0 := by rw [← hG']; exact G.set_len _ _ _
  clear hG' r G
  have hX : ∀ b, XX O ((i0, some (.cells (cs.set j (.own id 0)))) :: (id, some (.arr e sz [])) :: h) G' b → XX O ((id, some (.arr e sz [])) :: h) G' b := fun b hb => Rel.turnX (o' := .cells (cs.set j (.own id 0))) hh' rfl hb
  refine H a w _ ⟨r'.size, r'.dfr, fun t => (r'.env t).ext (Ext.refl (fun _ => False) w) (fun _ _ h => h.elim) (fun b _ hb => hX b hb) (GStep.refl _), fun i o ho => ?_, fun i o k i' o' k' b h1 h2 h3 h4 h5 h6 => ?_, r'.ext, fun b hb => r'.own b ?_, r'.xlt, r'.ids⟩
  · rw [hget_cons] at ho
    by_cases ee : i0 = i
    · subst ee
      rw [if_pos rfl] at ho
      cases ho
      refine ⟨b, arr, ty, e1, e2, by simpa using e3, fun k c v hc hv => ?_⟩
      rw [List.getElem?_set] at hc
      split at hc
      · rename_i ejk
        subst ejk
        split at hc
        · cases hc
          obtain ⟨q1, q2⟩ := e4 j _ v hj hv
          rw [q1.sc_inv]
          exact ⟨.own id 0 _ rfl (by rw [hGl]; exact Nat.le_refl _) ⟨_, _, _, hGm⟩ (fun _ => hGm.symm), rfl⟩
        · cases hc
      · obtain ⟨q1, q2⟩ := e4 k c v hc hv
        exact ⟨q1.ext (Ext.refl (fun _ => False) w) (fun _ _ h => h.elim) (fun b _ hb => hX b hb) (GStep.refl _), q2⟩
    · rw [if_neg ee] at ho
      exact (r'.obj i o ho).mono (fun b _ hb => hX b hb)
  · have hs : ∀ i o, hget ((i0, some (.cells (cs.set j (.own id 0)))) :: (id, some (.arr e sz [])) :: h) i = some o → ∃ o2, hget ((id, some (.arr e sz [])) :: h) i = some o2 ∧ names o2 = names o := by
      intro i o ho
      rw [hget_cons] at ho
      by_cases ee : i0 = i
      · subst ee
        rw [if_pos rfl] at ho
        cases ho
        exact ⟨_, hh', rfl⟩
      · rw [if_neg ee] at ho
        exact ⟨o, ho, rfl⟩
    obtain ⟨o2, g1, g2⟩ := hs i o h1
    obtain ⟨o3, g3, g4⟩ := hs i' o' h3
    exact r'.dist i o2 k i' o3 k' b g1 (by rw [g2]; exact h2) g3 (by rw [g4]; exact h4) h5 h6
  · obtain ⟨i, o, q1, k, hk, q2⟩ := hb
    rw [hget_cons] at q1
    by_cases ee : i0 = i
    · subst ee
      rw [if_pos rfl] at q1
      cases q1
      exact ⟨i0, _, hh', k, hk, q2⟩
    · rw [if_neg ee] at q1
      exact ⟨i, o, q1, k, hk, q2⟩
/-- an own row in a cell is written no more -/
theorem AW_freezeCell {c : Code} (i0 j : Nat) {id n e sz : Nat} {cs : List AV} {es : List (List D)} (hh : hget h i0 = some (.cells cs)) (hj : cs[j]? = some (.own id n)) (hd : hget h id = some (.arr e sz es)) (hn : es.length = n)
    (H : AW P O c Q env ((i0, some (.cells (cs.set j (.d (.sl sz es))))) :: (id, none) :: h)) : AW P O c Q env h := by
  intro a w G r
  obtain ⟨d1, d2⟩ := r.drop hd
  have hob := r.obj id _ hd
  have hne : id ≠ i0 := by intro e; subst e; rw [hd] at hh; cases hh
  have hh' : hget ((id, none) :: h) i0 = some (.cells cs) := by rw [hget_cons, if_neg hne]; exact hh
  obtain ⟨b, arr, ty, e1, e2, e3, e4⟩ := r.obj i0 _ hh
  have hX : ∀ b, XX O ((i0, some (.cells (cs.set j (.d (.sl sz es))))) :: (id, none) :: h) G b → XX O ((id, none) :: h) G b := fun b hb => Rel.turnX (o' := .cells (cs.set j (.d (.sl sz es)))) hh' rfl hb
  have hs : ∀ i o, hget ((i0, some (.cells (cs.set j (.d (.sl sz es))))) :: (id, none) :: h) i = some o → ∃ o2, hget h i = some o2 ∧ names o2 = names o := by
    intro i o ho
    rw [hget_cons] at ho
    by_cases ee : i0 = i
    · subst ee
      rw [if_pos rfl] at ho
      cases ho
      exact ⟨_, hh, rfl⟩
    · rw [if_neg ee, hget_cons] at ho
      by_cases e' : id = i
      · rw [if_pos e'] at ho; cases ho
      · rw [if_neg e'] at ho
        exact ⟨o, ho, rfl⟩
  refine H a w _ ⟨r.size, r.dfr, fun t => (r.env t).ext (Ext.refl (fun _ => False) w) (fun _ _ h => h.elim) (fun b _ hb => d1 b (hX b hb)) (GStep.refl _), fun i o ho => ?_, fun i o k i' o' k' b h1 h2 h3 h4 h5 h6 => ?_, r.ext, fun b hb => r.own b ?_, r.xlt, r.ids⟩
  · rw [hget_cons] at ho
    by_cases ee : i0 = i
    · subst ee
      rw [if_pos rfl] at ho
      cases ho
      refine ⟨b, arr, ty, e1, e2, by simpa using e3, fun k c v hc hv => ?_⟩
      rw [List.getElem?_set] at hc
      split at hc
      · rename_i ejk
        subst ejk
        split at hc
        · cases hc
          obtain ⟨q1, q2⟩ := e4 j _ v hj hv
          refine ⟨?_, q2⟩
          cases q1 with
          | own _ _ _ _ _ _ hvv =>
            rw [hvv (by rw [hob.1, hn])]
            exact .d _ _ (own_sl hob (fun b _ hb => d1 b (hX b hb)) (fun b hb hx => d2 b hb (r.xNot hd hb) (hX b hx)))
        · cases hc
      · obtain ⟨q1, q2⟩ := e4 k c v hc hv
        exact ⟨q1.ext (Ext.refl (fun _ => False) w) (fun _ _ h => h.elim) (fun b _ hb => d1 b (hX b hb)) (GStep.refl _), q2⟩
    · rw [if_neg ee, hget_cons] at ho
      by_cases e' : id = i
      · rw [if_pos e'] at ho; cases ho
      · rw [if_neg e'] at ho
        exact (r.obj i o ho).mono (fun b _ hb => d1 b (hX b hb))
  · obtain ⟨o2, g1, g2⟩ := hs i o h1
    obtain ⟨o3, g3, g4⟩ := hs i' o' h3
    exact r.dist i o2 k i' o3 k' b g1 (by rw [g2]; exact h2) g3 (by rw [g4]; exact h4) h5 h6
  · obtain ⟨i, o, q1, k, hk, q2⟩ := hb
    obtain ⟨o2, g1, g2⟩ := hs i o q1
    exact ⟨i, o2, g1, k, by rw [g2]; exact hk, q2⟩

/-! ### made -/
def asDv : List Value → List D := fun l => l.map .sc
theorem LStep_makeOwn {t e sz bs id : Nat} {z : Value} {kl kc : IntKind} {x y : Operand} {l c : Int} (ho : o.op = .makeSlice t x y) (hd : o.dst = some id) (hT : T.desc t = some (.slice e)) (hF : T.full e = some (sz, bs, z)) (hzs : Nat.beq z.cells.size sz = true)
    (h1z : z.cells.toList.all (fun v => v.oneCell') = true) (hx : evalA env x = .d (.sc (.int kl l))) (hy : evalA env y = .d (.sc (.int kc c))) (hn : dstOk (some id) O.nt = true) (hi : O.ids.contains id = false)
    (h0 : 0 ≤ l) (hlc : l ≤ c) (hb : (bs : Int) * c ≤ 281474976710656) (h63 : c ≤ 9223372036854775807) :
    LStep P O o env h [] [id] (.own id l.toNat) [(id, some (.arr e sz (List.replicate l.toNat (asDv z.cells.toList))))] := by
  intro env' h' he _ hf a w G r K Q hK
  have hid : id ∉ O.ids := by simpa using hi
  have gx := evalA_rep r.env x
  have gy := evalA_rep r.env y
  rw [he x (by simp [ho, Op.operands]), hx] at gx
  rw [he y (by simp [ho, Op.operands]), hy] at gy
  obtain ⟨i, i1, i2, i3, i4⟩ := T.inf_ok _ (lkT_mem hF)
  have hzs' : z.cells.size = sz := Nat.eq_of_beq_eq_true hzs
  have hrun := run_make (P := P) (w := w) t e i z (T.desc_ok hT) i1 i4 kl kc l c h0 hlc (by rw [i3]; exact hb) h63
  rw [i2] at hrun
  simp only at hrun
  have hsz0 : c.toNat * sz = (madeCells z.cells (c.toNat * sz)).size := by rw [size_madeCells]
  have hcell : ∀ (p : Nat), p < c.toNat * sz → (madeCells z.cells (c.toNat * sz))[p]? = some (z.cells[p % z.cells.size]!) := by
    intro p hp
    unfold madeCells
    simp [hp]
  have r' := r.newArr (id := id) (ety := e) (sz := sz) (n := l.toNat) (cap := c.toNat) (cells := madeCells z.cells (c.toNat * sz)) (ds := List.replicate l.toNat (asDv z.cells.toList)) (hf id (by simp)) hid (by simp) (by omega) (by unfold maxLen; omega) (by rw [size_madeCells])
    (fun i e' hi => by
      rw [List.getElem?_replicate] at hi
      split at hi
      · cases hi; simp [asDv, hzs']
      · cases hi)
    (fun i e' hi j x hj => by
      rw [List.getElem?_replicate] at hi
      split at hi
      · rename_i hil
        cases hi
        have hjl : j < sz := by
          have := (List.getElem?_eq_some_iff.1 hj).1
          simp [asDv, hzs'] at this; exact this
        have hlt : i * sz + j < c.toNat * sz := by
          have : (i + 1) * sz ≤ c.toNat * sz := Nat.mul_le_mul_right sz (by omega)
          rw [Nat.add_mul, Nat.one_mul] at this
          omega
        refine ⟨_, hcell _ hlt, ?_⟩
        rw [hzs', Nat.add_comm, Nat.add_mul_mod_self_right, Nat.mod_eq_of_lt hjl]
        unfold asDv at hj
        rw [List.getElem?_map] at hj
        obtain ⟨v, hv, rfl⟩ := Option.map_eq_some_iff.1 hj
        have hjz : j < z.cells.size := by omega
        have hv' : z.cells[j]! = v := by
          rw [Array.getElem?_toList] at hv
          rw [getElem!_pos z.cells j hjz]
          rw [Array.getElem?_eq_getElem hjz] at hv
          exact Option.some.inj hv
        rw [hv']
        exact .sc v (List.all_eq_true.1 h1z v (List.mem_of_getElem? hv))
      · cases hi)
  refine wp_value (v := .slice (some ⟨w.heap.size, 0, none⟩) l.toNat c.toNat) (w' := w.alloc (.cells (madeCells z.cells (c.toNat * sz)) e)) ?_ (hK _ _ _ (r'.put (by rw [hd]; exact hn) (.own id l.toNat _ rfl (by rw [G.set_len]; exact Nat.le_refl _) ⟨_, _, _, G.set_m _ _ _⟩ (fun _ => (G.set_m _ _ _).symm))))
  simp [execOp, ho, gx.sc_inv, gy.sc_inv, hrun]
end
end Go.SL
