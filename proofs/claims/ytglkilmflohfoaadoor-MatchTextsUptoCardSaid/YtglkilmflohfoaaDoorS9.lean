/- The layer 'SL': calls. -/
import Derived.Test.YtglkilmflohfoaaDoorS7
import Derived.Orders
namespace Go.SL
open Go.RowKit

theorem Rel.lt {O : Org} {env : Env} {h : Hp} {a : Act} {w : World} {G : Ctx} (r : Rel O env h a w G) {b : Nat} (hb : XX O h G b) : b < w.heap.size := by
  rcases hb with hb | ⟨i, o, h1, j, hj, hb⟩
  · exact Nat.lt_of_lt_of_le (r.xlt b hb).1 r.ext.size
  · exact (r.obj i o h1).lt hj hb
/-- nothing that was there has turned -/
theorem Rel.keep {O : Org} {env : Env} {h : Hp} {a : Act} {w w' : World} {G : Ctx} (r : Rel O env h a w G) (he : Ext (fun _ => False) w w') : Rel O env h a w' G :=
  ⟨r.size, r.dfr, fun t => (r.env t).ext he (fun _ _ h => h.elim) (fun _ _ h => h) (GStep.refl G),
    fun i oo h1 => (r.obj i oo h1).ext he (fun _ _ h => h.elim) (fun _ _ h => h) (fun hh => hh.ext he (fun _ _ h => h.elim) (fun _ _ h => h) (GStep.refl G)) (fun _ _ => ⟨rfl, rfl⟩) (fun _ _ _ _ h => h),
    r.dist, r.ext.transNew he (fun _ _ h => h.elim), r.own, r.xlt, r.ids⟩

section
variable {P : Program} {O : Org} {T : Tab P} {Q : Exit → Env → Hp → Prop} {env : Env} {h : Hp} {all rest : List Oper} {o : Oper} {rs : List Rc}

/-- a contract without objects, met in any state -/
theorem AC.at {f : FuncId} {args : List AV} {R : AV → Hp → Prop} (H : AC P f args [] [] R) {a : Act} {w : World} {G : Ctx} (r : Rel O env h a w G) {vs : List Value} (hl : vs.length = args.length)
    (hv : ∀ (i : Nat) (x : AV) (v : Value), args[i]? = some x → vs[i]? = some v → Rep w (XX O h G) G x v) :
    Calls P f vs.toArray w fun e w' => ∃ v x h' G', e = .returned v ∧ Rel O env h a w' G ∧ Rep w' (XX O h G) G' x v ∧ R x h' := by
  have r0 : Rel (org w (XX O h G) [] G [] 0) [] [] noAct w G :=
    ⟨rfl, rfl, fun t => .any _, fun id o ho => (by cases ho), fun id o j id' o' j' b h1 => (by cases h1), Ext.refl _ w, fun b hb => (by obtain ⟨id, o, h1, _⟩ := hb; cases h1), fun b hb => ⟨r.lt hb, fun ⟨id, o, h1, _⟩ => (by cases h1)⟩, fun id hid => (by cases hid)⟩
  refine (H.2 w (XX O h G) G vs r0 hl (fun i x v hx hvv => (hv i x v hx hvv).ext (Ext.refl (fun _ => False) w) (fun _ _ h => h.elim) (fun b _ hb => ?_) (GStep.refl G))).mono ?_
  · rcases hb with hb | ⟨id, o, h1, _⟩
    · exact hb
    · cases h1
  · rintro e w' ⟨v, x, h', G', h1, h2, h3, h4⟩
    refine ⟨v, x, h', G', h1, r.keep (h2.ext.mono (fun b _ hb => ?_)), h3.ext (Ext.refl (fun _ => False) w') (fun _ _ h => h.elim) (fun b _ hb => .inl hb) (GStep.refl G'), h4⟩
    obtain ⟨id, o, h1, _⟩ := hb
    cases h1

theorem argsRep {a : Act} {w : World} {G : Ctx} {env' : Env} (r : Rel O env' h a w G) {as : Array Operand} (he : ∀ x ∈ as.toList, evalA env' x = evalA env x) {args : List AV} (ha : as.toList.map (evalA env) = args) :
    (as.map a.eval).toList.length = args.length ∧ ∀ (i : Nat) (x : AV) (v : Value), args[i]? = some x → (as.map a.eval).toList[i]? = some v → Rep w (XX O h G) G x v := by
  subst ha
  refine ⟨by simp, fun i x v hx hv => ?_⟩
  simp only [List.getElem?_map, Option.map_eq_some_iff] at hx
  obtain ⟨y, hy, rfl⟩ := hx
  simp only [Array.toList_map, List.getElem?_map, hy, Option.map_some, Option.some.injEq] at hv
  subst hv
  rw [← he y (List.mem_of_getElem? hy)]
  exact evalA_rep r.env y

/-- a call of a function that needs no object, and hands back what is known -/
theorem LStep_call {f : FuncId} {args : List AV} {rv : AV} {as : Array Operand} {ts : Array TypeId} (H : AC P f args [] [] (fun r _ => r = rv)) (ho : o.op = .call { callee := .value (.func f), args := as, argTypes := ts })
    (ha : as.toList.map (evalA env) = args) (hd : dstOk o.dst O.nt = true) (hn : noid rv = true) : LStep P O o env h [] [] rv [] := by
  intro env' h' he _ _ a w G r K Q hK
  obtain ⟨h1, h2⟩ := argsRep (h := h') (env := env) r (as := as) (fun x hx => he x (by simp [ho, Op.operands, Call.operands, Array.mem_toList_iff.1 hx])) ha
  have hrun : (execOp a.eval o).run P w = .ok (.enter f (as.map a.eval)) w := by
    simp [execOp, ho, resolve, Act.eval, Deferred.ofValue, invoke, H.1 (as.map a.eval) w]
  unfold Oper.wp
  rw [hrun]
  show Calls P f (as.map a.eval) w _
  have := H.at r h1 h2
  rw [Array.toArray_toList] at this
  refine this.mono ?_
  rintro e w' ⟨v, x, h'', G', rfl, f2, f3, rfl⟩
  exact hK v w' G (f2.put hd (f3.noid G hn))
end
end Go.SL
/- The layer 'SL': regions whose order is left open. -/
namespace Go.SL
open Go.RowKit

def foldE (L : Nat → Bool) : Nat → List Rc → Env → Env
  | _, [], e => e
  | k, r :: rs, e => foldE L (k + 1) rs (bif L k then upd e r.dst r.av else e)
def foldH (L : Nat → Bool) : Nat → List Rc → Hp → Hp
  | _, [], h => h
  | k, r :: rs, h => foldH L (k + 1) rs (bif L k then r.u ++ h else h)

theorem foldE_shift (L : Nat → Bool) : ∀ (rs : List Rc) (k : Nat) (e : Env), foldE L (k + 1) rs e = foldE (fun j => L (j + 1)) k rs e
  | [], _, _ => rfl
  | _ :: rs, k, _ => foldE_shift L rs (k + 1) _
theorem foldH_shift (L : Nat → Bool) : ∀ (rs : List Rc) (k : Nat) (h : Hp), foldH L (k + 1) rs h = foldH (fun j => L (j + 1)) k rs h
  | [], _, _ => rfl
  | _ :: rs, k, _ => foldH_shift L rs (k + 1) _
theorem foldE_none {L : Nat → Bool} (h : ∀ j, L j = false) : ∀ (rs : List Rc) (k : Nat) (e : Env), foldE L k rs e = e
  | [], _, _ => rfl
  | r :: rs, k, e => by unfold foldE; rw [h k]; exact foldE_none h rs (k + 1) e
theorem foldH_none {L : Nat → Bool} (h : ∀ j, L j = false) : ∀ (rs : List Rc) (k : Nat) (e : Hp), foldH L k rs e = e
  | [], _, _ => rfl
  | r :: rs, k, e => by unfold foldH; rw [h k]; exact foldH_none h rs (k + 1) e

theorem lk_upd (e : Env) (d : Option Nat) (v : AV) (t : Nat) : lk (upd e d v) t = if d = some t then v else lk e t := by
  cases d with
  | none => simp [upd]
  | some s => simp only [upd, lk_cons, Option.some.injEq]
/-- what a slot holds hangs on those alone that write it -/
theorem lk_foldE {L L' : Nat → Bool} {t : Nat} : ∀ (rs : List Rc) (k : Nat) (e e' : Env), (∀ j r, rs[j]? = some r → r.dst = some t → L (k + j) = L' (k + j)) → lk e t = lk e' t → lk (foldE L k rs e) t = lk (foldE L' k rs e') t
  | [], _, _, _, _, he => he
  | r :: rs, k, e, e', h, he => by
    unfold foldE
    refine lk_foldE rs (k + 1) _ _ (fun j r' hj hd => ?_) ?_
    · have := h (j + 1) r' (by simpa using hj) hd
      rw [show k + (j + 1) = k + 1 + j by omega] at this
      exact this
    · by_cases hd : r.dst = some t
      · have := h 0 r rfl hd
        rw [Nat.add_zero] at this
        rw [this]
        cases L' k
        · exact he
        · show lk (upd e r.dst r.av) t = lk (upd e' r.dst r.av) t
          rw [lk_upd, lk_upd, if_pos hd, if_pos hd]
      · have hx : ∀ (b : Bool) (e : Env), lk (bif b then upd e r.dst r.av else e) t = lk e t := by
          intro b e
          cases b
          · rfl
          · show lk (upd e r.dst r.av) t = lk e t
            rw [lk_upd, if_neg hd]
        rw [hx, hx]
        exact he
theorem hget_append {u h : Hp} {id : Nat} : hget (u ++ h) id = if id ∈ keysH u then hget u id else hget h id := by
  induction u with
  | nil => simp [keysH]
  | cons p u ih =>
    obtain ⟨s, v⟩ := p
    show hget ((s, v) :: (u ++ h)) id = _
    rw [hget_cons, hget_cons, ih]
    have hk : keysH ((s, v) :: u) = s :: keysH u := rfl
    rw [hk]
    by_cases e : s = id
    · subst e; simp
    · have e' : ¬ id = s := fun x => e x.symm
      simp [e, e']
theorem hget_foldH {L L' : Nat → Bool} {id : Nat} : ∀ (rs : List Rc) (k : Nat) (e e' : Hp), (∀ j r, rs[j]? = some r → id ∈ keysH r.u → L (k + j) = L' (k + j)) → hget e id = hget e' id → hget (foldH L k rs e) id = hget (foldH L' k rs e') id
  | [], _, _, _, _, he => he
  | r :: rs, k, e, e', h, he => by
    unfold foldH
    refine hget_foldH rs (k + 1) _ _ (fun j r' hj hd => ?_) ?_
    · have := h (j + 1) r' (by simpa using hj) hd
      rw [show k + (j + 1) = k + 1 + j by omega] at this
      exact this
    · by_cases hd : id ∈ keysH r.u
      · have := h 0 r rfl hd
        rw [Nat.add_zero] at this
        rw [this]
        cases L' k
        · exact he
        · show hget (r.u ++ e) id = hget (r.u ++ e') id
          rw [hget_append, hget_append, if_pos hd, if_pos hd]
      · have hx : ∀ (b : Bool) (e : Hp), hget (bif b then r.u ++ e else e) id = hget e id := by
          intro b e
          cases b
          · rfl
          · show hget (r.u ++ e) id = hget e id
            rw [hget_append, if_neg hd]
        rw [hx, hx]
        exact he
theorem freshE_foldE {L : Nat → Bool} {id : Nat} : ∀ (rs : List Rc) (k : Nat) (e : Env), freshE id e = true → (∀ j r, rs[j]? = some r → L (k + j) = true → fresh id r.av = true) → freshE id (foldE L k rs e) = true
  | [], _, _, he, _ => he
  | r :: rs, k, e, he, h => by
    unfold foldE
    refine freshE_foldE rs (k + 1) _ ?_ (fun j r' hj hl => h (j + 1) r' (by simpa using hj) (by rw [show k + (j + 1) = k + 1 + j by omega]; exact hl))
    cases hk : L k
    · exact he
    · have := h 0 r rfl (by simpa using hk)
      show freshE id (upd e r.dst r.av) = true
      cases hd : r.dst with
      | none => exact he
      | some t =>
        show (fresh id r.av && freshE id e) = true
        rw [this, he]; rfl
theorem freshH_append {id : Nat} {h : Hp} (hh : freshH id h = true) : ∀ (u : Hp), freshH id u = true → freshH id (u ++ h) = true
  | [], _ => hh
  | (t, v) :: u, hu => by
    unfold freshH at hu
    show (_ && freshH id (u ++ h)) = true
    simp only [Bool.and_eq_true] at hu ⊢
    exact ⟨hu.1, freshH_append hh u hu.2⟩
theorem freshH_foldH {L : Nat → Bool} {id : Nat} : ∀ (rs : List Rc) (k : Nat) (e : Hp), freshH id e = true → (∀ j r, rs[j]? = some r → L (k + j) = true → freshH id r.u = true) → freshH id (foldH L k rs e) = true
  | [], _, _, he, _ => he
  | r :: rs, k, e, he, h => by
    unfold foldH
    refine freshH_foldH rs (k + 1) _ ?_ (fun j r' hj hl => h (j + 1) r' (by simpa using hj) (by rw [show k + (j + 1) = k + 1 + j by omega]; exact hl))
    cases hk : L k
    · exact he
    · exact freshH_append he _ (h 0 r rfl (by simpa using hk))

/-- one operation of a chain, met in the text's order -/
def Met (P : Program) (O : Org) (all : List Oper) (o : Oper) (r : Rc) (env : Env) (h : Hp) : Prop :=
  r.dst = o.dst ∧ ((wantedA all env o = some true ∧ LStep P O o env h r.Ts r.Ns r.av r.u) ∨ (wantedA all env o = some false ∧ dstOk o.dst O.nt = true ∧ r.av = .tup [] ∧ r.u = []))
theorem Chain.met {P : Program} {O : Org} {all rest : List Oper} {env env' : Env} {h h' : Hp} {rs : List Rc} (c : Chain P O all rest env h rs env' h') :
    rest.length = rs.length ∧ env' = foldE (fun _ => true) 0 rs env ∧ h' = foldH (fun _ => true) 0 rs h ∧
      ∀ i o r, rest[i]? = some o → rs[i]? = some r → Met P O all o r (foldE (fun j => decide (j < i)) 0 rs env) (foldH (fun j => decide (j < i)) 0 rs h) := by
  induction c with
  | nil env h => exact ⟨rfl, rfl, rfl, fun i o r hi => by simp at hi⟩
  | step o rest env h Ts Ns av u rs env' h' hw hs hf _ ih =>
    obtain ⟨i1, i2, i3, i4⟩ := ih
    refine ⟨by simp [i1], ?_, ?_, fun i o' r' hi hr => ?_⟩
    · show env' = foldE _ 1 rs _
      rw [foldE_shift]; exact i2
    · show h' = foldH _ 1 rs _
      rw [foldH_shift]; exact i3
    · cases i with
      | zero =>
        simp only [List.getElem?_cons_zero, Option.some.injEq] at hi hr
        subst hi; subst hr
        rw [foldE_none (by intro j; simp), foldH_none (by intro j; simp)]
        exact ⟨rfl, .inl ⟨hw, hs⟩⟩
      | succ i =>
        have := i4 i o' r' (by simpa using hi) (by simpa using hr)
        show Met P O all o' r' (foldE _ (0 + 1) rs _) (foldH _ (0 + 1) rs _)
        rw [foldE_shift, foldH_shift]
        simpa using this
  | skip o rest env h rs env' h' hw hd _ ih =>
    obtain ⟨i1, i2, i3, i4⟩ := ih
    refine ⟨by simp [i1], ?_, ?_, fun i o' r' hi hr => ?_⟩
    · show env' = foldE _ 1 rs _
      rw [foldE_shift]; exact i2
    · show h' = foldH _ 1 rs _
      rw [foldH_shift]; exact i3
    · cases i with
      | zero =>
        simp only [List.getElem?_cons_zero, Option.some.injEq] at hi hr
        subst hi; subst hr
        rw [foldE_none (by intro j; simp), foldH_none (by intro j; simp)]
        exact ⟨rfl, .inr ⟨hw, hd, rfl, rfl⟩⟩
      | succ i =>
        have := i4 i o' r' (by simpa using hi) (by simpa using hr)
        show Met P O all o' r' (foldE _ (0 + 1) rs _) (foldH _ (0 + 1) rs _)
        rw [foldE_shift, foldH_shift]
        simpa using this

/-! ### ancestors -/
def Down (all : List Oper) (L : Nat → Bool) : Prop := ∀ j o, all[j]? = some o → L j = true → ∀ e ∈ o.after.toList, Region.binds .any e = true → L e.on = true
def Needs (o : Oper) (L : Nat → Bool) : Prop := ∀ e ∈ o.after.toList, Region.binds .any e = true → L e.on = true
def MaskOk (all : List Oper) (j m : Nat) : Prop := ∀ o, all[j]? = some o → ∀ i, m.testBit i = true → ∀ L, Down all L → Needs o L → L i = true

theorem maskOf_ok {all : List Oper} {acc : List Nat} (hacc : ∀ j m, acc[j]? = some m → MaskOk all j m) (hlen : acc.length ≤ all.length) (o : Oper) {i : Nat} (hi : (maskOf acc o).testBit i = true) {L : Nat → Bool} (hd : Down all L) (hn : Needs o L) : L i = true := by
  unfold maskOf at hi
  have key : ∀ (es : List Edge) (m : Nat), (∀ e ∈ es, Region.binds .any e = true → L e.on = true) → (m.testBit i = true → L i = true) →
      (es.foldl (fun m e => bif Region.binds .any e then m ||| ((1 <<< e.on) ||| acc.getD e.on 0) else m) m).testBit i = true → L i = true := by
    intro es
    induction es with
    | nil => intro m _ h h'; exact h h'
    | cons e es ih =>
      intro m hes hm
      refine ih _ (fun e' h' => hes e' (by simp [h'])) ?_
      dsimp only
      cases hb : Region.binds .any e
      · exact hm
      · have hl := hes e (by simp) hb
        intro ht
        rw [cond_true] at ht
        simp only [Nat.testBit_or, Bool.or_eq_true] at ht
        rcases ht with ht | ht | ht
        · exact hm ht
        · have : i = e.on := by
            rw [Nat.one_shiftLeft, Nat.testBit_two_pow] at ht
            exact (of_decide_eq_true ht).symm
          rw [this]; exact hl
        · cases ha : acc[e.on]? with
          | none => rw [List.getD_eq_getElem?_getD, ha] at ht; simp at ht
          | some m' =>
            rw [List.getD_eq_getElem?_getD, ha] at ht
            have hlt : e.on < all.length := Nat.lt_of_lt_of_le (List.getElem?_eq_some_iff.1 ha).1 hlen
            obtain ⟨o', ho'⟩ : ∃ o', all[e.on]? = some o' := ⟨_, List.getElem?_eq_getElem hlt⟩
            exact hacc _ _ ha o' ho' i ht L hd (hd _ _ ho' hl)
  exact key _ _ hn (by simp) hi
theorem masks_ok {all : List Oper} : ∀ (rest : List Oper) (acc : List Nat), (∀ i, rest[i]? = all[acc.length + i]?) → (∀ j m, acc[j]? = some m → MaskOk all j m) → acc.length ≤ all.length → ∀ j m, (masks rest acc)[j]? = some m → MaskOk all j m
  | [], acc, _, hacc, _ => hacc
  | o :: rest, acc, hr, hacc, hlen => by
    have h0 := hr 0
    simp only [List.getElem?_cons_zero, Nat.add_zero] at h0
    have hlt : acc.length < all.length := (List.getElem?_eq_some_iff.1 h0.symm).1
    refine masks_ok rest (acc ++ [maskOf acc o]) (fun i => ?_) (fun j m hj => ?_) (by simp; omega)
    · have := hr (i + 1)
      rw [List.getElem?_cons_succ] at this
      rw [this]; congr 1; simp; omega
    · rcases Nat.lt_trichotomy j acc.length with h | h | h
      · rw [List.getElem?_append_left h] at hj
        exact hacc j m hj
      · subst h
        simp only [List.getElem?_append_right (Nat.le_refl _), Nat.sub_self, List.getElem?_cons_zero, Option.some.injEq] at hj
        subst hj
        intro o' ho' i hi L hd hn
        rw [← h0] at ho'
        cases ho'
        exact maskOf_ok hacc hlen o hi hd hn
      · rw [List.getElem?_append_right (by omega)] at hj
        rw [List.getElem?_eq_none (by simp; omega)] at hj
        cases hj
theorem masks_length : ∀ (rest : List Oper) (acc : List Nat), (masks rest acc).length = acc.length + rest.length
  | [], _ => rfl
  | o :: rest, acc => by unfold masks; rw [masks_length rest]; simp; omega

theorem chkPairs_ok {all : List Oper} : ∀ (l : List Item) (k : Nat), chkPairs all l k = true → ∀ i j x y, i < j → l[i]? = some x → l[j]? = some y → pairOk all (k + i) x y = true
  | [], _, _, _, _, _, _, _, hx, _ => by simp at hx
  | z :: r, k, h, i, j, x, y, hij, hx, hy => by
    unfold chkPairs at h
    simp only [Bool.and_eq_true, List.all_eq_true] at h
    cases j with
    | zero => omega
    | succ j =>
      rw [List.getElem?_cons_succ] at hy
      cases i with
      | zero =>
        simp only [List.getElem?_cons_zero, Option.some.injEq] at hx
        subst hx
        exact h.1 y (List.mem_of_getElem? hy)
      | succ i =>
        rw [List.getElem?_cons_succ] at hx
        rw [show k + (i + 1) = k + 1 + i by omega]
        exact chkPairs_ok r (k + 1) h.2 i j x y (by omega) hx hy
theorem chkEdges_ok : ∀ (l : List Oper) (k : Nat), chkEdges l k = true → ∀ i o, l[i]? = some o → ∀ e ∈ o.after.toList, Region.binds .any e = true → e.on < k + i
  | [], _, _, _, _, hx => by simp at hx
  | z :: r, k, h, i, o, hi => by
    unfold chkEdges at h
    simp only [Bool.and_eq_true, List.all_eq_true] at h
    cases i with
    | zero =>
      simp only [List.getElem?_cons_zero, Option.some.injEq] at hi
      subst hi
      intro e he hb
      have := h.1 e he
      rw [hb] at this
      simp only [Bool.not_true, Bool.false_or] at this
      rw [Nat.blt_eq] at this
      omega
    | succ i =>
      rw [List.getElem?_cons_succ] at hi
      intro e he hb
      have := chkEdges_ok r (k + 1) h.2 i o hi e he hb
      omega
theorem hasN_mem {l : List Nat} {n : Nat} : hasN l n = true ↔ n ∈ l := by
  unfold hasN
  rw [List.any_eq_true]
  constructor
  · rintro ⟨m, h1, h2⟩
    rw [Nat.eq_of_beq_eq_true h2]; exact h1
  · intro h
    exact ⟨n, h, by simp⟩

theorem operand_agree {o : Oper} {all : List Oper} {e e' : Env} (h : ∀ t ∈ looksL all o, lk e' t = lk e t) : (∀ x ∈ o.op.operands.toList, evalA e' x = evalA e x) ∧ wantedA all e' o = wantedA all e o := by
  constructor
  · intro x hx
    cases x with
    | tmp t =>
      refine h t (List.mem_append_left _ (List.mem_filterMap.2 ⟨.tmp t, hx, rfl⟩))
    | const v => cases v <;> rfl
    | global g => rfl
    | func f => rfl
  · unfold wantedA
    cases hg : o.guard with
    | none => rfl
    | some p =>
      obtain ⟨j, b⟩ := p
      simp only
      cases hj : all[j]? with
      | none => rfl
      | some oj =>
        simp only
        cases hd : oj.dst with
        | none => rfl
        | some d =>
          simp only
          rw [h d (List.mem_append_right _ (by rw [hg]; simp only [hj, hd]; simp))]

theorem countP_lt_of {α : Type} {p q : α → Bool} : ∀ (l : List α) (a : α), a ∈ l → p a = true → q a = false → (∀ x, q x = true → p x = true) → l.countP q < l.countP p
  | [], a, h, _, _, _ => by simp at h
  | x :: l, a, h, h1, h2, h3 => by
    have hle : l.countP q ≤ l.countP p := List.countP_mono_left (fun x _ hx => h3 x hx)
    rcases List.mem_cons.1 h with e | hm
    · subst e
      simp only [List.countP_cons, h1, h2]
      simp; omega
    · have ih := countP_lt_of l a hm h1 h2 h3
      simp only [List.countP_cons]
      have : (if q x = true then 1 else 0) ≤ (if p x = true then 1 else 0) := by
        by_cases hq : q x = true
        · rw [if_pos hq, if_pos (h3 x hq)]; exact Nat.le_refl 1
        · rw [if_neg hq]; omega
      omega

section
variable {P : Program} {O : Org} {T : Tab P} {Q : Exit → Env → Hp → Prop} {env : Env} {h : Hp} {all : List Oper}

def LA (A : Array Bool) (j : Nat) : Bool := A.getD j false
def openN (n : Nat) (A : Array Bool) : Nat := (List.range n).countP fun j => !LA A j

theorem any_go {rs : List Rc} {env' : Env} {h' : Hp} (c : Chain P O all all env h rs env' h') (hc : chk all env h rs = true) (q : Q .normal env' h') :
    ∀ (fuel : Nat) (A : Array Bool) (a : Act) (w : World) (G : Ctx), A.size = all.length → Down all (LA A) → openN all.length A ≤ fuel →
      Rel O (foldE (LA A) 0 rs env) (foldH (LA A) 0 rs h) a w G → wpAny P .any all.toArray (lift O Q) fuel A a w := by
  obtain ⟨hlen, henv, hh, hmet⟩ := c.met
  unfold chk at hc
  simp only [Bool.and_eq_true] at hc
  obtain ⟨⟨hc1, hc2⟩, hc3⟩ := hc
  have hms := masks_ok (all := all) all [] (fun i => by simp) (fun j m h => by simp at h) (by simp)
  have hml := masks_length all []
  -- two operations, and what is told of them
  have pair : ∀ i j oi oj ri rj, i < j → all[i]? = some oi → all[j]? = some oj → rs[i]? = some ri → rs[j]? = some rj →
      (∀ L, Down all L → Needs oj L → confl all oi oj ri rj = true → L i = true) ∧ newOk rj.Ns ri = true ∧ (newOk ri.Ns rj = true ∨ ∀ L, Down all L → Needs oj L → L i = true) := by
    intro i j oi oj ri rj hij h1 h2 h3 h4
    have hmi : ∃ m, (masks all [])[i]? = some m := ⟨_, List.getElem?_eq_getElem (by have := (List.getElem?_eq_some_iff.1 h1).1; simp at hml; omega)⟩
    have hmj : ∃ m, (masks all [])[j]? = some m := ⟨_, List.getElem?_eq_getElem (by have := (List.getElem?_eq_some_iff.1 h2).1; simp at hml; omega)⟩
    obtain ⟨mi, hmi⟩ := hmi
    obtain ⟨mj, hmj⟩ := hmj
    have := chkPairs_ok _ 0 hc2 i j (oi, ri, mi) (oj, rj, mj) hij (by simp [List.getElem?_zip_eq_some, h1, h3, hmi]) (by simp [List.getElem?_zip_eq_some, h2, h4, hmj])
    unfold pairOk at this
    simp only [Bool.and_eq_true, Nat.zero_add, Bool.or_eq_true, Bool.not_eq_true'] at this
    refine ⟨fun L hL hN hcf => ?_, this.1.2, this.2.imp id (fun h L hL hN => hms j mj hmj oj h2 i h L hL hN)⟩
    rcases this.1.1 with h | h
    · rw [hcf] at h; cases h
    · exact hms j mj hmj oj h2 i h L hL hN
  have done : ∀ A : Array Bool, A.size = all.length → Region.ready .any all.toArray A = [] → ∀ j, j < all.length → LA A j = true := by
    intro A hA hr j
    induction j using Nat.strongRecOn with
    | _ j ih =>
      intro hj
      cases hl : LA A j
      · exfalso
        have : j ∈ Region.ready .any all.toArray A := by
          rw [mem_ready]
          refine ⟨?_, all[j], by simp [hj], fun e he hb => ?_⟩
          · unfold LA at hl
            simp only [Array.getD_eq_getD_getElem?] at hl ⊢
            rw [Array.getElem?_eq_getElem (by omega)] at hl ⊢
            exact hl
          · have hlt := chkEdges_ok _ 0 hc1 j all[j] (List.getElem?_eq_getElem hj) e (Array.mem_toList_iff.2 he) hb
            exact ih e.on (by omega) (by omega)
        rw [hr] at this
        cases this
      · rfl
  have fin : ∀ (A : Array Bool) (a : Act) (w : World) (G : Ctx), A.size = all.length → Region.ready .any all.toArray A = [] → Rel O (foldE (LA A) 0 rs env) (foldH (LA A) 0 rs h) a w G → lift O Q .normal a w := by
    intro A a w G hA hr r
    have hd := done A hA hr
    have hall : ∀ j r, rs[j]? = some r → LA A j = true := fun j r hj => hd j (by have := (List.getElem?_eq_some_iff.1 hj).1; omega)
    refine ⟨env', h', G, r.weak (fun t => .inl ?_) (fun id o ho => ?_), q⟩
    · rw [henv]
      exact lk_foldE rs 0 env env (fun j r hj _ => by simp [hall j r hj]) rfl
    · rw [hh] at ho
      rw [← ho]
      exact hget_foldH rs 0 h h (fun j r hj _ => by simp [hall j r hj]) rfl
  intro fuel
  induction fuel with
  | zero =>
    intro A a w G hA hD hf r
    have hall : ∀ j, j < all.length → LA A j = true := by
      intro j hj
      have h0 : openN all.length A = 0 := by omega
      unfold openN at h0
      rw [List.countP_eq_zero] at h0
      have := h0 j (by simp [hj])
      simpa using this
    have hr : Region.ready .any all.toArray A = [] := by
      refine List.eq_nil_iff_forall_not_mem.2 (fun j hj => ?_)
      rw [mem_ready] at hj
      obtain ⟨h1, o, h2, _⟩ := hj
      have hlt : j < all.length := by
        have := (Array.getElem?_eq_some_iff.1 h2).1
        simpa using this
      have h3 := hall j hlt
      unfold LA at h3
      simp only [Array.getD_eq_getD_getElem?] at h1 h3
      rw [Array.getElem?_eq_getElem (by omega)] at h1 h3
      simp at h1 h3
      rw [h1] at h3; cases h3
    exact ⟨hr, fin A a w G hA hr r⟩
  | succ fuel ih =>
    intro A a w G hA hD hf r
    refine ⟨fun hr => fin A a w G hA hr r, fun i hi => ?_⟩
    rw [mem_ready] at hi
    obtain ⟨hi0, o, ho, hne⟩ := hi
    have ho' : all[i]? = some o := by simpa using ho
    have hilt : i < all.length := (List.getElem?_eq_some_iff.1 ho').1
    have hLi : LA A i = false := by
      unfold LA
      simp only [Array.getD_eq_getD_getElem?] at hi0 ⊢
      rw [Array.getElem?_eq_getElem (by omega)] at hi0 ⊢
      exact hi0
    have hN : Needs o (LA A) := fun e he hb => hne e (Array.mem_toList_iff.1 he) hb
    obtain ⟨rc, hrc⟩ : ∃ rc, rs[i]? = some rc := ⟨_, List.getElem?_eq_getElem (by omega)⟩
    obtain ⟨hdst, hm⟩ := hmet i o rc ho' hrc
    -- those before and behind
    have apart : ∀ j rj oj, rs[j]? = some rj → all[j]? = some oj → LA A j ≠ decide (j < i) → j ≠ i → (j < i → confl all oj o rj rc = false) ∧ (i < j → confl all o oj rc rj = false) := by
      intro j rj oj h1 h2 h3 h4
      constructor
      · intro hlt
        cases hcf : confl all oj o rj rc
        · rfl
        · have := (pair j i oj o rj rc hlt h2 ho' h1 hrc).1 _ hD hN hcf
          exact absurd (by rw [this]; simp [hlt]) h3
      · intro hlt
        cases hcf : confl all o oj rc rj
        · rfl
        · have hLj : LA A j = true := by
            cases hl : LA A j
            · exact absurd (by rw [hl]; simp; omega) h3
            · rfl
          have := (pair i j o oj rc rj hlt ho' h2 hrc h1).1 _ hD (hD j oj h2 hLj) hcf
          rw [hLi] at this; cases this
    have oper : ∀ j rj, rs[j]? = some rj → ∃ oj, all[j]? = some oj := fun j rj hj => ⟨_, List.getElem?_eq_getElem (by have := (List.getElem?_eq_some_iff.1 hj).1; omega)⟩
    have agreeE : ∀ t ∈ looksL all o, lk (foldE (LA A) 0 rs env) t = lk (foldE (fun j => decide (j < i)) 0 rs env) t := by
      intro t ht
      refine lk_foldE rs 0 env env (fun j rj hj hd => ?_) rfl
      rw [Nat.zero_add]
      by_cases hji : j = i
      · subst hji; rw [hLi]; simp
      · obtain ⟨oj, hoj⟩ := oper j rj hj
        cases hne : (LA A j == decide (j < i))
        · exfalso
          have hne' : LA A j ≠ decide (j < i) := by simpa using hne
          obtain ⟨a1, a2⟩ := apart j rj oj hj hoj hne' hji
          rcases Nat.lt_or_gt_of_ne hji with hlt | hlt
          · have := a1 hlt
            unfold confl at this
            simp only [Bool.or_eq_false_iff] at this
            have := this.1.1.1.1
            rw [hd] at this
            exact absurd (hasN_mem.2 ht) (by simpa [hasD] using this)
          · have := a2 hlt
            unfold confl at this
            simp only [Bool.or_eq_false_iff] at this
            have := this.1.1.1.2
            rw [hd] at this
            exact absurd (hasN_mem.2 ht) (by simpa [hasD] using this)
        · simpa using hne
    have agreeH : ∀ id ∈ rc.Ts, hget (foldH (LA A) 0 rs h) id = hget (foldH (fun j => decide (j < i)) 0 rs h) id := by
      intro t ht
      refine hget_foldH rs 0 h h (fun j rj hj hd => ?_) rfl
      rw [Nat.zero_add]
      by_cases hji : j = i
      · subst hji; rw [hLi]; simp
      · obtain ⟨oj, hoj⟩ := oper j rj hj
        cases hne : (LA A j == decide (j < i))
        · exfalso
          have hne' : LA A j ≠ decide (j < i) := by simpa using hne
          obtain ⟨a1, a2⟩ := apart j rj oj hj hoj hne' hji
          rcases Nat.lt_or_gt_of_ne hji with hlt | hlt
          · have := a1 hlt
            unfold confl at this
            simp only [Bool.or_eq_false_iff] at this
            have := this.1.2
            rw [List.any_eq_false] at this
            have := this t hd
            simp only [Bool.or_eq_true, not_or] at this
            exact this.2 (hasN_mem.2 ht)
          · have := a2 hlt
            unfold confl at this
            simp only [Bool.or_eq_false_iff] at this
            have := this.2
            rw [List.any_eq_false] at this
            exact this t hd (hasN_mem.2 ht)
        · simpa using hne
    obtain ⟨hop, hwt⟩ := operand_agree agreeE
    -- the state behind
    have hA' : (A.setIfInBounds i true).size = all.length := by simp [hA]
    have hL' : ∀ j, LA (A.setIfInBounds i true) j = if j = i then true else LA A j := by
      intro j
      unfold LA
      simp only [Array.getD_eq_getD_getElem?]
      by_cases e : j = i
      · subst e
        rw [if_pos rfl, Array.getElem?_setIfInBounds_self_of_lt (by omega)]
        rfl
      · rw [if_neg e, Array.getElem?_setIfInBounds_ne (fun x => e x.symm)]
    have hD' : Down all (LA (A.setIfInBounds i true)) := by
      intro j oj hoj hl e he hb
      rw [hL'] at hl ⊢
      by_cases hei : e.on = i
      · rw [if_pos hei]
      · rw [if_neg hei]
        by_cases e' : j = i
        · subst e'
          rw [ho'] at hoj
          cases hoj
          exact hN e he hb
        · rw [if_neg e'] at hl
          exact hD j oj hoj hl e he hb
    have hf' : openN all.length (A.setIfInBounds i true) ≤ fuel := by
      have : openN all.length (A.setIfInBounds i true) < openN all.length A := by
        refine countP_lt_of _ i (by simp [hilt]) (by simp [hLi]) (by simp [hL']) (fun x hx => ?_)
        simp only [hL'] at hx
        by_cases e : x = i
        · simp [e] at hx
        · simpa [e] using hx
      omega
    -- those behind it that are listed have nothing to do with it
    have noConf : ∀ j rj oj, rs[j]? = some rj → all[j]? = some oj → i < j → LA A j = true → confl all o oj rc rj = false := by
      intro j rj oj h1 h2 hlt hl
      exact (apart j rj oj h1 h2 (by rw [hl]; simp; omega) (by omega)).2 hlt
    have hstepE : ∀ t, lk (foldE (LA (A.setIfInBounds i true)) 0 rs env) t = lk (upd (foldE (LA A) 0 rs env) rc.dst rc.av) t := by
      have hrs : rs = rs.take i ++ rc :: rs.drop (i + 1) := by
        have hlt := (List.getElem?_eq_some_iff.1 hrc)
        obtain ⟨h1, h2⟩ := hlt
        rw [← h2, ← List.drop_eq_getElem_cons h1, List.take_append_drop]
      intro t
      rw [lk_upd]
      have foldE_app : ∀ (L : Nat → Bool) (x y : List Rc) (k : Nat) (e : Env), foldE L k (x ++ y) e = foldE L (k + x.length) y (foldE L k x e) := by
        intro L x
        induction x with
        | nil => intro y k e; rfl
        | cons r x ih' => intro y k e; show foldE L (k + 1) (x ++ y) _ = _; rw [ih']; simp [foldE]; congr 1; omega
      by_cases hd : rc.dst = some t
      · rw [if_pos hd]
        rw [hrs, foldE_app]
        unfold foldE
        have hlen' : (rs.take i).length = i := by simp; omega
        rw [hlen', Nat.zero_add, hL' i, if_pos rfl]
        rw [cond_true]
        have : ∀ (y : List Rc) (k : Nat) (e : Env), (∀ j r, y[j]? = some r → LA (A.setIfInBounds i true) (k + j) = true → r.dst ≠ some t) → lk (foldE (LA (A.setIfInBounds i true)) k y e) t = lk e t := by
          intro y
          induction y with
          | nil => intro k e _; rfl
          | cons r y ih' =>
            intro k e hy
            unfold foldE
            rw [ih' (k + 1) _ (fun j r' hj hl => hy (j + 1) r' (by simpa using hj) (by rw [show k + (j + 1) = k + 1 + j by omega]; exact hl))]
            cases hk : LA (A.setIfInBounds i true) k
            · rfl
            · show lk (upd e r.dst r.av) t = lk e t
              rw [lk_upd, if_neg (hy 0 r rfl (by simpa using hk))]
        rw [this _ _ _ (fun j r' hj hl hd' => ?_), lk_upd, if_pos hd]
        have hj' : rs[i + 1 + j]? = some r' := by rw [List.getElem?_drop] at hj; exact hj
        obtain ⟨oj, hoj⟩ := oper _ _ hj'
        rw [hL', if_neg (by omega)] at hl
        have := noConf (i + 1 + j) r' oj hj' hoj (by omega) hl
        unfold confl at this
        simp only [Bool.or_eq_false_iff] at this
        have := this.1.1.2
        rw [hd, hd'] at this
        simp [hasD, hasN] at this
      · rw [if_neg hd]
        refine lk_foldE rs 0 env env (fun j rj hj hdj => ?_) rfl
        rw [Nat.zero_add, hL']
        by_cases e : j = i
        · subst e
          rw [hrc] at hj
          cases hj
          exact absurd hdj hd
        · rw [if_neg e]
    have hstepH : ∀ id, hget (foldH (LA (A.setIfInBounds i true)) 0 rs h) id = hget (rc.u ++ foldH (LA A) 0 rs h) id := by
      have hrs : rs = rs.take i ++ rc :: rs.drop (i + 1) := by
        have hlt := (List.getElem?_eq_some_iff.1 hrc)
        obtain ⟨h1, h2⟩ := hlt
        rw [← h2, ← List.drop_eq_getElem_cons h1, List.take_append_drop]
      intro t
      rw [hget_append]
      have foldH_app : ∀ (L : Nat → Bool) (x y : List Rc) (k : Nat) (e : Hp), foldH L k (x ++ y) e = foldH L (k + x.length) y (foldH L k x e) := by
        intro L x
        induction x with
        | nil => intro y k e; rfl
        | cons r x ih' => intro y k e; show foldH L (k + 1) (x ++ y) _ = _; rw [ih']; simp [foldH]; congr 1; omega
      by_cases hd : t ∈ keysH rc.u
      · rw [if_pos hd]
        rw [hrs, foldH_app]
        unfold foldH
        have hlen' : (rs.take i).length = i := by simp; omega
        rw [hlen', Nat.zero_add, hL' i, if_pos rfl]
        rw [cond_true]
        have : ∀ (y : List Rc) (k : Nat) (e : Hp), (∀ j r, y[j]? = some r → LA (A.setIfInBounds i true) (k + j) = true → t ∉ keysH r.u) → hget (foldH (LA (A.setIfInBounds i true)) k y e) t = hget e t := by
          intro y
          induction y with
          | nil => intro k e _; rfl
          | cons r y ih' =>
            intro k e hy
            unfold foldH
            rw [ih' (k + 1) _ (fun j r' hj hl => hy (j + 1) r' (by simpa using hj) (by rw [show k + (j + 1) = k + 1 + j by omega]; exact hl))]
            cases hk : LA (A.setIfInBounds i true) k
            · rfl
            · show hget (r.u ++ e) t = hget e t
              rw [hget_append, if_neg (hy 0 r rfl (by simpa using hk))]
        rw [this _ _ _ (fun j r' hj hl hd' => ?_), hget_append, if_pos hd]
        have hj' : rs[i + 1 + j]? = some r' := by rw [List.getElem?_drop] at hj; exact hj
        obtain ⟨oj, hoj⟩ := oper _ _ hj'
        rw [hL', if_neg (by omega)] at hl
        have := noConf (i + 1 + j) r' oj hj' hoj (by omega) hl
        unfold confl at this
        simp only [Bool.or_eq_false_iff] at this
        have := this.1.2
        rw [List.any_eq_false] at this
        have := this t hd
        simp only [Bool.or_eq_true, not_or] at this
        exact this.1 (hasN_mem.2 hd')
      · rw [if_neg hd]
        refine hget_foldH rs 0 h h (fun j rj hj hdj => ?_) rfl
        rw [Nat.zero_add, hL']
        by_cases e : j = i
        · subst e
          rw [hrc] at hj
          cases hj
          exact absurd hdj hd
        · rw [if_neg e]
    have next : ∀ a' w' G', Rel O (upd (foldE (LA A) 0 rs env) rc.dst rc.av) (rc.u ++ foldH (LA A) 0 rs h) a' w' G' → wpAny P .any all.toArray (lift O Q) fuel (A.setIfInBounds i true) a' w' := by
      intro a' w' G' r'
      exact ih _ a' w' G' hA' hD' hf' (r'.weak (fun t => .inl (hstepE t)) (fun id o ho => by rw [← hstepH]; exact ho))
    unfold wpOp
    rw [ho]
    simp only
    rcases hm with ⟨hw, hs⟩ | ⟨hw, hdk, hav, hu⟩
    · rw [← hwt] at hw
      rw [if_pos (wantedA_ok r hw)]
      refine .inl (hs _ _ hop agreeH (fun id hid => ?_) a w G r _ _ (fun v w' G' r' => next _ _ _ (by rw [hdst]; exact r')))
      have h0 : freshE id env = true ∧ freshH id h = true := by
        rw [List.all_eq_true] at hc3
        have := hc3 rc (List.mem_of_getElem? hrc)
        rw [List.all_eq_true] at this
        have := this id hid
        simpa using this
      have hnew : ∀ j rj, rs[j]? = some rj → LA A j = true → fresh id rj.av = true ∧ freshH id rj.u = true := by
        intro j rj hj hl
        obtain ⟨oj, hoj⟩ := oper j rj hj
        have : newOk rc.Ns rj = true := by
          rcases Nat.lt_trichotomy j i with hlt | e | hlt
          · exact (pair j i oj o rj rc hlt hoj ho' hj hrc).2.1
          · subst e; rw [hLi] at hl; cases hl
          · rcases (pair i j o oj rc rj hlt ho' hoj hrc hj).2.2 with h | h
            · exact h
            · have := h _ hD (hD j oj hoj hl)
              rw [hLi] at this; cases this
        unfold newOk at this
        rw [List.all_eq_true] at this
        have := this id hid
        simpa using this
      exact freshAt_of (freshE_foldE rs 0 env h0.1 (fun j rj hj hl => (hnew j rj hj (by simpa using hl)).1)) (freshH_foldH rs 0 h h0.2 (fun j rj hj hl => (hnew j rj hj (by simpa using hl)).2))
    · rw [← hwt] at hw
      rw [if_neg (by rw [wantedA_ok r hw]; exact Bool.false_ne_true)]
      refine next _ _ G ?_
      rw [hu, hav, hdst]
      exact r.put hdk (.tup [] #[] rfl (fun i c v hc _ => by simp at hc))

theorem Rel.drew {a : Act} {w : World} {G : Ctx} (r : Rel O env h a w G) : Rel O env h a w.drew G := r.keep (Ext.refl _ w).drew
/-- A region whose order is left open. -/
theorem AW_regionD {id : Nat} (hm : P.follows .mixedOrders = true) (H : EvD P O env h all all env h [] Q) : AW P O (.region id all.toArray true) Q env h := by
  intro a w G r
  obtain ⟨rs, env', h', c, hc, q⟩ := H
  refine wp_region_any hm ?_
  refine any_go c (by simpa using hc) q _ _ a _ G (by simp) (fun j o hj hl => ?_) ?_ ?_
  · exfalso
    unfold LA at hl
    simp [Array.getD_eq_getD_getElem?] at hl
    cases hq : (Array.replicate all.length false)[j]? with
    | none => rw [hq] at hl; cases hl
    | some b =>
      rw [hq] at hl
      obtain ⟨_, e⟩ := Array.getElem?_eq_some_iff.1 hq
      simp at e hl
      rw [hl] at e; cases e
  · unfold openN
    refine Nat.le_trans List.countP_le_length (by simp)
  · have hf : ∀ j, LA (Array.replicate all.toArray.size false) j = false := by
      intro j
      unfold LA
      rw [Array.getD_eq_getD_getElem?]
      cases hq : (Array.replicate all.toArray.size false)[j]? with
      | none => rfl
      | some b =>
        obtain ⟨_, e⟩ := Array.getElem?_eq_some_iff.1 hq
        simp at e
        rw [← e]; rfl
    rw [foldE_none hf, foldH_none hf]
    exact r.drew
end
end Go.SL
