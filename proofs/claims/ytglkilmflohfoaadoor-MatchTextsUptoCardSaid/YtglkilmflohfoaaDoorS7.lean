/- The layer 'SL': slices that are made and grow; calls. -/
import Derived.Test.YtglkilmflohfoaaDoorS6
namespace Go.SL
open Go.RowKit

def asD : AV → Option D
  | .d x => some x
  | _ => none
def asDs : List AV → Option (List D)
  | [] => some []
  | c :: r => match asD c, asDs r with
    | some x, some l => some (x :: l)
    | _, _ => none
theorem asDs_inv : ∀ {cs : List AV} {l : List D}, asDs cs = some l → cs = l.map .d
  | [], l, h => by cases h; rfl
  | c :: r, l, h => by
    unfold asDs at h
    cases hc : asD c with
    | none => rw [hc] at h; cases h
    | some x =>
      rw [hc] at h
      cases hr : asDs r with
      | none => rw [hr] at h; cases h
      | some l' =>
        rw [hr] at h
        cases h
        rw [asDs_inv hr]
        cases c <;> cases hc
        rfl
/-- the parts of a slice's literal, each an element, in their order from k on -/
def rowsOf (sz : Nat) (env : Env) : Nat → List (Nat × Operand) → Option (List (List AV))
  | _, [] => some []
  | k, (i, x) :: r => bif Nat.beq i k then (match cellsA (evalA env x), rowsOf sz env (k + 1) r with
    | some cs, some l => bif Nat.beq cs.length sz then some (cs :: l) else none
    | _, _ => none) else none
def rowsD : List (List AV) → Option (List (List D))
  | [] => some []
  | c :: r => match asDs c, rowsD r with
    | some x, some l => some (x :: l)
    | _, _ => none
theorem rowsD_inv : ∀ {cs : List (List AV)} {l : List (List D)}, rowsD cs = some l → cs = l.map (fun e => e.map .d)
  | [], l, h => by cases h; rfl
  | c :: r, l, h => by
    unfold rowsD at h
    cases hc : asDs c with
    | none => rw [hc] at h; cases h
    | some x =>
      rw [hc] at h
      cases hr : rowsD r with
      | none => rw [hr] at h; cases h
      | some l' =>
        rw [hr] at h
        cases h
        rw [rowsD_inv hr, asDs_inv hc]
        rfl

/-- what the literal's filling gives, at the concrete values -/
theorem fillRows {w : World} {X : Nat → Prop} {G : Ctx} {env : Env} {a : Act} {sz : Nat} : ∀ (parts : List (Nat × Operand)) (k : Nat) (es : List (List AV)) (vs : Array Value),
    rowsOf sz env k parts = some es → (k + parts.length) * sz ≤ vs.size → (∀ p ∈ parts, Rep w X G (evalA env p.2) (a.eval p.2)) →
    ∃ vout, Instr.fill (fun i => some (i * sz, sz)) vs (parts.map fun p => (p.1, a.eval p.2)) = some vout ∧ vout.size = vs.size ∧ es.length = parts.length ∧ (∀ (i : Nat) (e : List AV), es[i]? = some e → e.length = sz) ∧
      (∀ j, j < k * sz → vout[j]? = vs[j]?) ∧
      ∀ (i : Nat) (e : List AV), es[i]? = some e → ∀ (j : Nat) (c : AV), e[j]? = some c → ∃ v, vout[(k + i) * sz + j]? = some v ∧ Rep w X G c v ∧ v.oneCell' = true
  | [], k, es, vs, h, _, _ => by cases h; exact ⟨vs, rfl, rfl, rfl, fun i e hi => by simp at hi, fun _ _ => rfl, fun i e hi => by simp at hi⟩
  | (i0, x) :: parts, k, es, vs, h, hl, hr => by
    unfold rowsOf at h
    cases hb : Nat.beq i0 k with
    | false => rw [hb] at h; cases h
    | true =>
      have := Nat.eq_of_beq_eq_true hb
      subst this
      rw [hb] at h
      simp only [cond_true] at h
      cases hx : cellsA (evalA env x) with
      | none => rw [hx] at h; cases h
      | some cs =>
        rw [hx] at h
        cases hrow : rowsOf sz env (i0 + 1) parts with
        | none => rw [hrow] at h; cases h
        | some l =>
          rw [hrow] at h
          simp only at h
          cases hz : Nat.beq cs.length sz with
          | false => rw [hz] at h; cases h
          | true =>
            have hsz := Nat.eq_of_beq_eq_true hz
            rw [hz] at h
            simp only [cond_true, Option.some.injEq] at h
            subst h
            obtain ⟨hs, hcc⟩ := cellsA_rep hx (hr _ List.mem_cons_self)
            have hs' : (a.eval x).cells.size = cs.length := hs
            simp only [List.length_cons] at hl
            have hmul : (i0 + (parts.length + 1)) * sz = i0 * sz + sz + parts.length * sz := by
              rw [Nat.add_mul, Nat.add_mul, Nat.one_mul]; omega
            rw [hmul] at hl
            obtain ⟨g1, g2⟩ := foldSet (off := i0 * sz) (a.eval x).cells.toList 0 vs
            obtain ⟨vout, f1, f2, f3, f4, f5, f6⟩ := fillRows (a := a) parts (i0 + 1) l ((((a.eval x).cells.toList).zipIdx 0).foldl (fun cs (p : Value × Nat) => cs.setIfInBounds (i0 * sz + p.2) p.1) vs) hrow (by
              rw [g1]
              have : (i0 + 1 + parts.length) * sz = i0 * sz + sz + parts.length * sz := by rw [Nat.add_mul, Nat.add_mul, Nat.one_mul]
              omega) (fun p hp => hr p (List.mem_cons_of_mem _ hp))
            refine ⟨vout, ?_, by rw [f2, g1], by simp [f3], fun i e hi => ?_, fun j hj => ?_, fun i e hi j c hj => ?_⟩
            · simp only [List.map_cons]
              unfold Instr.fill
              simp only
              rw [if_neg (by rw [hs', hsz]; simp; omega), ← Array.foldl_toList, Array.toList_zipIdx]
              exact f1
            · cases i with
              | zero => simp at hi; subst hi; exact hsz
              | succ i => exact f4 i e (by simpa using hi)
            · rw [f5 j (by rw [Nat.add_mul, Nat.one_mul]; omega), g2 j (by rw [Array.length_toList, hs', hsz]; omega), if_neg (by omega)]
            · cases i with
              | zero =>
                simp only [List.getElem?_cons_zero, Option.some.injEq] at hi
                subst hi
                have hjl : j < cs.length := (List.getElem?_eq_some_iff.1 hj).1
                have hlt : j < (a.eval x).cells.size := by omega
                refine ⟨(a.eval x).cells[j], ?_, hcc j c _ hj (Array.getElem?_eq_getElem hlt)⟩
                rw [Nat.add_zero, f5 _ (by rw [Nat.add_mul, Nat.one_mul]; omega), g2 _ (by rw [Array.length_toList, hs', hsz]; omega), Array.length_toList, hs', hsz, if_pos (by omega)]
                rw [show i0 * sz + j - (i0 * sz + 0) = j by omega, Array.getElem?_toList]
                exact Array.getElem?_eq_getElem hlt
              | succ i =>
                obtain ⟨v, e1, e2⟩ := f6 i e (by simpa using hi) j c hj
                exact ⟨v, by rw [← e1]; congr 2; congr 1; omega, e2⟩

section
variable {P : Program} {O : Org} {T : Tab P} {Q : Exit → Env → Hp → Prop} {env : Env} {h : Hp} {all rest : List Oper} {o : Oper} {rs : List Rc}

theorem run_buildSlice {t e sz len : Nat} {parts : Array (Nat × Operand)} {es : List (List AV)} (ho : o.op = .buildSlice t len parts) (hT : T.desc t = some (.slice e)) (hS : T.size e = some sz) {zs : List AV} (hz : T.zeroC e = some zs)
    (hr : rowsOf sz env 0 parts.toList = some es) (hlen : parts.toList.length = len) (hsmall : len * sz ≤ 16777216) {w : World} {X : Nat → Prop} {G : Ctx} {a : Act} (ha : ∀ x ∈ o.op.operands.toList, Rep w X G (evalA env x) (a.eval x)) :
    ∃ cells, (execOp a.eval o).run P w = .ok (.value (.slice (some ⟨w.heap.size, 0, none⟩) len len)) (w.alloc (.cells cells e)) ∧ cells.size = len * sz ∧ es.length = len ∧ (∀ (i : Nat) (e : List AV), es[i]? = some e → e.length = sz) ∧
      ∀ (i : Nat) (e : List AV), es[i]? = some e → ∀ (j : Nat) (c : AV), e[j]? = some c → ∃ v, cells[i * sz + j]? = some v ∧ Rep w X G c v ∧ v.oneCell' = true := by
  obtain ⟨z, hz1, hz2, hz3⟩ := zeroC_run hz w
  obtain ⟨vout, f1, f2, f3, f4, f5, f6⟩ := fillRows (w := w) (X := X) (G := G) (a := a) (sz := sz) parts.toList 0 es ((Array.range (len * sz)).map ((if len * sz = 0 then #[] else z.cells)[· % (if len * sz = 0 then #[] else z.cells).size]!)) hr (by simp [← hlen]) (fun p hp => ha p.2 (by
    simp only [ho, Op.operands]
    exact List.mem_map.2 ⟨p, hp, rfl⟩))
  refine ⟨vout, ?_, by rw [f2]; simp, by rw [f3, hlen], f4, fun i e hi j c hj => ?_⟩
  · have hparts : (parts.map fun x => (x.1, a.eval x.2)).toList = parts.toList.map fun p => (p.1, a.eval p.2) := by simp
    have hnot : ¬ (len * sz > 2 ^ 24) := by omega
    by_cases h0 : len * sz = 0
    · simp only [h0, if_true] at f1
      simp only [execOp, ho, Instr.buildSlice, Sem.run_bind, run_underlying (T.desc_ok hT), Result.andThen_ok, run_size T hS, h0, if_true, if_false, Sem.run_pure, show ¬ (0 > 2 ^ 24) by omega, hparts, f1]
      rfl
    · simp only [h0, if_false] at f1
      simp only [execOp, ho, Instr.buildSlice, Sem.run_bind, run_underlying (T.desc_ok hT), Result.andThen_ok, run_size T hS, hnot, h0, if_false, hz1, Sem.run_pure, hparts, f1]
      rfl
  · obtain ⟨v, e1, e2⟩ := f6 i e hi j c hj
    exact ⟨v, by rw [Nat.zero_add] at e1; exact e1, e2⟩

/-- a literal that is only read: data -/
theorem LStep_lit {t e sz len : Nat} {parts : Array (Nat × Operand)} {es : List (List AV)} {ds : List (List D)} {zs : List AV} (ho : o.op = .buildSlice t len parts) (hT : T.desc t = some (.slice e)) (hS : T.size e = some sz) (hz : T.zeroC e = some zs)
    (hr : rowsOf sz env 0 parts.toList = some es) (hD : rowsD es = some ds) (hlen : parts.toList.length = len) (hd : dstOk o.dst O.nt = true) (hsmall : len * sz ≤ 16777216) : LStep P O o env h [] [] (.d (.sl sz ds)) [] := by
  intro env' h' he _ _ a w G r K Q hK
  have ha : ∀ x ∈ o.op.operands.toList, Rep w (XX O h' G) G (evalA env x) (a.eval x) := fun x hx => by
    have := evalA_rep r.env x
    rwa [he x hx] at this
  obtain ⟨cells, f1, f2, f3, f4, f5⟩ := run_buildSlice (P := P) ho hT hS hz hr hlen hsmall ha
  refine wp_value f1 (hK _ _ G ?_)
  have hX : ¬ XX O h' G w.heap.size := by
    rintro (hx | ⟨i, oo, h1, j, hj, hb⟩)
    · have := (r.xlt _ hx).1
      have := r.ext.size
      omega
    · have := (r.obj i oo h1).lt hj hb
      omega
  have hext := Ext.alloc (fun _ => False) w (.cells cells e)
  have r' : Rel O env' h' a (w.alloc (.cells cells e)) G :=
    ⟨r.size, r.dfr, fun t => (r.env t).ext hext (fun _ _ h => h.elim) (fun _ _ h => h) (GStep.refl G), fun i oo h1 => (r.obj i oo h1).ext hext (fun _ _ h => h.elim) (fun _ _ h => h) (fun hh => hh.ext hext (fun _ _ h => h.elim) (fun _ _ h => h) (GStep.refl G)) (fun _ _ => ⟨rfl, rfl⟩) (fun _ _ _ _ h => h), r.dist, r.ext.transNew hext (fun _ _ h => h.elim), r.own, r.xlt, r.ids⟩
  refine r'.put hd (.d _ _ ?_)
  have hes := rowsD_inv hD
  subst hes
  have hdat : ∀ (i : Nat) (e' : List D), ds[i]? = some e' → ∀ (j : Nat) (x : D), e'[j]? = some x → ∃ v, cells[i * sz + j]? = some v ∧ RepD w (XX O h' G) x v := by
    intro i e' hi j x hj
    obtain ⟨v, e1, e2, _⟩ := f5 i (e'.map .d) (by simp [hi]) j (.d x) (by simp [hj])
    cases e2 with
    | d _ _ e2 => exact ⟨v, e1, e2⟩
  refine .sl sz ds _ len len w.heap.size 0 (fun i j => cells.getD (i * sz + j) undef) (by simpa using f3) (Nat.le_refl _) (fun _ => ⟨rfl, by simp, hX⟩) (fun i e' hi => ?_) (fun i e' hi j x hj => ?_) (fun i e' hi j x hj => ?_)
  · have := f4 i (e'.map .d) (by simp [hi])
    simpa using this
  · obtain ⟨v, e1, e2⟩ := hdat i e' hi j x hj
    rw [Nat.zero_add, cell_of_row (w.alloc (.cells cells e)) w.heap.size _ cells e (0, 0) (heap_alloc_new w _), e1, Array.getD_eq_getD_getElem?, e1]
    rfl
  · obtain ⟨v, e1, e2⟩ := hdat i e' hi j x hj
    rw [Array.getD_eq_getD_getElem?, e1]
    exact e2.ext hext (fun _ _ h => h.elim) (fun _ _ h => h)
/-- a slice that the call itself makes and may let grow -/
theorem Rel.newArr {a : Act} {w : World} {G : Ctx} (r : Rel O env h a w G) {id ety sz n cap : Nat} {cells : Array Value} {ds : List (List D)} (hf : freshAt id env h) (hid : id ∉ O.ids) (hn : ds.length = n) (hcap : n ≤ cap) (hmax : cap ≤ maxLen)
    (hsz : cells.size = cap * sz) (hl : ∀ (i : Nat) (e : List D), ds[i]? = some e → e.length = sz)
    (hc : ∀ (i : Nat) (e : List D), ds[i]? = some e → ∀ (j : Nat) (x : D), e[j]? = some x → ∃ v, cells[i * sz + j]? = some v ∧ RepD w (XX O h G) x v) :
    Rel O env ((id, some (.arr ety sz ds)) :: h) a (w.alloc (.cells cells ety)) (G.set id (.slice (some ⟨w.heap.size, 0, none⟩) n cap) n) := by
  refine r.new hf hid rfl (fun b hb => by cases hb; rfl) ⟨by rw [G.set_len, hn], ⟨_, _, _, G.set_m _ _ _⟩, hl, (cells.toList.take (n * sz)), ?_, fun i e hi j x hj => ?_⟩
  · rw [G.set_m, hn]
    refine ⟨by rw [List.length_take, Array.length_toList, hsz]; exact Nat.min_eq_left (Nat.mul_le_mul_right sz hcap), .inr ⟨w.heap.size, cap, cells, rfl, Nat.zero_le _, heap_alloc_new w _, hcap, hmax, hsz, rfl⟩⟩
  · obtain ⟨v, e1, e2⟩ := hc i e hi j x hj
    have hil : i < n := by rw [← hn]; exact (List.getElem?_eq_some_iff.1 hi).1
    have hjl : j < sz := by rw [← hl i e hi]; exact (List.getElem?_eq_some_iff.1 hj).1
    have hlt : i * sz + j < n * sz := by
      have : (i + 1) * sz ≤ n * sz := Nat.mul_le_mul_right sz hil
      rw [Nat.add_mul, Nat.one_mul] at this
      omega
    refine ⟨v, by rw [List.getElem?_take, if_pos hlt, Array.getElem?_toList]; exact e1, ?_⟩
    have := r.repNew (id := id) (mv := .slice (some ⟨w.heap.size, 0, none⟩) n cap) (n := n) (ob := .cells cells ety) (o := .arr ety sz ds) hf rfl (fun b hb => by cases hb; rfl) (x := .d x) (v := v) rfl (.d _ _ e2)
    cases this with
    | d _ _ h => exact h

/-- a literal that will grow, or is written -/
theorem LStep_litOwn {t e sz len id : Nat} {parts : Array (Nat × Operand)} {es : List (List AV)} {ds : List (List D)} {zs : List AV} (ho : o.op = .buildSlice t len parts) (hd : o.dst = some id) (hT : T.desc t = some (.slice e)) (hS : T.size e = some sz) (hz : T.zeroC e = some zs)
    (hr : rowsOf sz env 0 parts.toList = some es) (hD : rowsD es = some ds) (hlen : parts.toList.length = len) (hn : dstOk (some id) O.nt = true) (hi : O.ids.contains id = false) (hsmall : len * sz ≤ 16777216) (hlen2 : len ≤ maxLen) :
    LStep P O o env h [] [id] (.own id len) [(id, some (.arr e sz ds))] := by
  intro env' h' he _ hf a w G r K Q hK
  have ha : ∀ x ∈ o.op.operands.toList, Rep w (XX O h' G) G (evalA env x) (a.eval x) := fun x hx => by
    have := evalA_rep r.env x
    rwa [he x hx] at this
  obtain ⟨cells, f1, f2, f3, f4, f5⟩ := run_buildSlice (P := P) ho hT hS hz hr hlen hsmall ha
  have hes := rowsD_inv hD
  subst hes
  have hid : id ∉ O.ids := by simpa using hi
  have r' := r.newArr (id := id) (ety := e) (sz := sz) (n := len) (cap := len) (cells := cells) (ds := ds) (hf id (by simp)) hid (by simpa using f3) (Nat.le_refl _) hlen2 f2 (fun i e' hi => by
    have := f4 i (e'.map .d) (by simp [hi])
    simpa using this) (fun i e' hi j x hj => by
    obtain ⟨v, e1, e2, _⟩ := f5 i (e'.map .d) (by simp [hi]) j (.d x) (by simp [hj])
    cases e2 with
    | d _ _ e2 => exact ⟨v, e1, e2⟩)
  refine wp_value f1 (hK _ _ _ (r'.put (by rw [hd]; exact hn) (.own id len _ rfl (by rw [G.set_len]; exact Nat.le_refl _) ⟨_, _, _, G.set_m _ _ _⟩ (fun _ => (G.set_m _ _ _).symm))))

/-- the cells of a slice that is data, in a row -/
theorem sl_row {w : World} {X : Nat → Prop} {sz : Nat} {es : List (List D)} {A : Option Addr} {n c : Nat} (h : RepD w X (.sl sz es) (.slice A n c)) (hsz : 0 < sz) :
    es.length = n ∧ ∃ vals : List Value, vals.length = n * sz ∧ (∀ u ∈ vals, u.oneCell' = true) ∧ (∀ ad, A = some ad → ∀ j u, vals[j]? = some u → w.cell? (ad.add j) = some u) ∧ (0 < n → ∃ ad, A = some ad) ∧ (∀ (i : Nat) (e : List D), es[i]? = some e → e.length = sz) ∧
      ∀ (i : Nat) (e : List D), es[i]? = some e → ∀ (j : Nat) (x : D), e[j]? = some x → ∃ v, vals[i * sz + j]? = some v ∧ RepD w X x v := by
  cases h with
  | sl _ _ _ _ _ b off vs hn hcap hA hl hcell hrep =>
    have key : ∀ q, q < n * sz → ∃ e x, es[q / sz]? = some e ∧ e[q % sz]? = some x := by
      intro q hq
      have h1 : q / sz < es.length := by rw [hn]; exact (Nat.div_lt_iff_lt_mul hsz).2 hq
      have h2 := hl _ _ (List.getElem?_eq_getElem h1)
      have h3 : q % sz < es[q / sz].length := by rw [h2]; exact Nat.mod_lt _ hsz
      exact ⟨_, _, List.getElem?_eq_getElem h1, List.getElem?_eq_getElem h3⟩
    have hget : ∀ j u, (List.map (fun q => vs (q / sz) (q % sz)) (List.range (n * sz)))[j]? = some u → j < n * sz ∧ u = vs (j / sz) (j % sz) := by
      intro j u hj
      simp only [List.getElem?_map, Option.map_eq_some_iff] at hj
      obtain ⟨k, hk, rfl⟩ := hj
      obtain ⟨h1, h2⟩ := List.getElem?_eq_some_iff.1 hk
      simp at h1 h2
      subst h2
      exact ⟨h1, rfl⟩
    refine ⟨hn, List.map (fun q => vs (q / sz) (q % sz)) (List.range (n * sz)), by simp, fun u hu => ?_, fun ad hAd j u hj => ?_, fun h0 => ⟨_, (hA h0).1⟩, hl, fun i e hi j x hj => ?_⟩
    · obtain ⟨q, hq, rfl⟩ := List.mem_map.1 hu
      obtain ⟨e, x, h1, h2⟩ := key q (by simpa using hq)
      exact (hrep _ e h1 _ x h2).one
    · obtain ⟨hj1, rfl⟩ := hget j u hj
      have h0 : 0 < n := by
        rcases Nat.eq_zero_or_pos n with e | e
        · subst e; simp at hj1
        · exact e
      obtain ⟨e1, _, _⟩ := hA h0
      rw [e1] at hAd
      cases hAd
      obtain ⟨e, x, h1, h2⟩ := key j hj1
      have := hcell _ e h1 _ x h2
      rw [Addr.add_lit]
      rwa [Nat.div_add_mod' j sz] at this
    · have hil : i < n := by rw [← hn]; exact (List.getElem?_eq_some_iff.1 hi).1
      have hjl : j < sz := by rw [← hl i e hi]; exact (List.getElem?_eq_some_iff.1 hj).1
      have hlt : i * sz + j < n * sz := by
        have : (i + 1) * sz ≤ n * sz := Nat.mul_le_mul_right sz hil
        rw [Nat.add_mul, Nat.one_mul] at this
        omega
      refine ⟨vs i j, ?_, hrep i e hi j x hj⟩
      rw [List.getElem?_map, List.getElem?_range hlt]
      simp only [Option.map_some]
      congr 2
      · rw [Nat.add_comm, Nat.add_mul_div_right _ _ hsz, Nat.div_eq_of_lt hjl, Nat.zero_add]
      · rw [Nat.add_comm, Nat.add_mul_mod_self_right, Nat.mod_eq_of_lt hjl]

def Tab.full (T : Tab P) (e : Nat) : Option (Nat × Nat × Value) := lkT T.inf e
/-- nil begins to grow -/
theorem AW_openNil {c : Code} {t id e sz : Nat} (hl : lk env t = .d (.sc (.slice none 0 0))) (h1 : freshE id env = true) (h2 : freshH id h = true) (hi : O.ids.contains id = false)
    (H : AW P O c Q ((t, .own id 0) :: env) ((id, some (.arr e sz [])) :: h)) : AW P O c Q env h := by
  intro a w G r
  have hid : id ∉ O.ids := by simpa using hi
  have r' := r.newG (w' := w) (Ext.refl _ w) (id := id) (mv := .slice none 0 0) (n := 0) (o := .arr e sz []) (freshAt_of h1 h2) hid rfl (fun b hb => by cases hb)
    ⟨G.set_len _ _ _, ⟨_, _, _, G.set_m _ _ _⟩, fun i e hi => by simp at hi, [], by rw [G.set_m]; exact World.ownsRow_nil w 0 e sz, fun i e hi => by simp at hi⟩
  refine H a w _ ⟨r'.size, r'.dfr, fun s => ?_, r'.obj, r'.dist, r'.ext, r'.own, r'.xlt, r'.ids⟩
  rw [lk_cons]
  by_cases hs : t = s
  · subst hs
    rw [if_pos rfl]
    have hv := r.env t
    rw [hl] at hv
    rw [hv.sc_inv]
    exact .own id 0 _ rfl (Nat.zero_le _) ⟨_, _, _, G.set_m _ _ _⟩ (fun _ => (G.set_m _ _ _).symm)
  · rw [if_neg hs]; exact r'.env s

theorem run_append_none {t e : TypeId} {i : TypeInfo} (ht : P.underlying t = some (.slice e)) (hi : P.info? e = some i) {w : World} {base size n : Nat} {v : Value} {xs : List Value} (hown : w.ownsRow base e size v n xs) (ty : TypeId) (A : Option Addr) (c : Nat) :
    (Builtin.append_ #[t, t] ty #[v, .slice A 0 c]).run P w = .ok v w := by
  rcases hown.2 with ⟨rfl, rfl⟩ | ⟨g, cap, cur, rfl, _, _, hnc, _⟩
  · cases A <;> simp [Builtin.append_, run_underlying ht, sizeOf, typeInfo, hi, Builtin.lenOf, Builtin.firstCells, loadCells, loadCellsFrom]
  · cases A <;> simp [Builtin.append_, run_underlying ht, sizeOf, typeInfo, hi, Builtin.lenOf, Builtin.firstCells, loadCells, loadCellsFrom, hnc, storeCells]

/-- append to a slice that the call itself owns -/
theorem LStep_append {t e sz by' id n : Nat} {z : Value} {s x : Operand} {es news : List (List D)} (ho : o.op = .call { callee := .builtin .append, args := #[s, x], argTypes := #[t, t] }) (hT : T.desc t = some (.slice e)) (hF : T.full e = some (sz, by', z))
    (hzs : Nat.beq z.cells.size sz = true) (hsz : Nat.blt 0 sz = true) (hs : evalA env s = .own id n) (hh : hget h id = some (.arr e sz es)) (hx : evalA env x = .d (.sl sz news)) (hd : dstOk o.dst O.nt = true) (hi : O.ids.contains id = false)
    (hn : n = es.length) (hb : (es.length + news.length) * by' ≤ 140737488355328) (h63 : es.length + news.length ≤ maxLen) :
    LStep P O o env h [id] [] (.own id (es ++ news).length) [(id, some (.arr e sz (es ++ news)))] := by
  intro env' h' he ht _ a w G r K Q hK
  have h1 := evalA_rep r.env s
  have h2 := evalA_rep r.env x
  rw [he s (by simp [ho, Op.operands, Call.operands]), hs] at h1
  rw [he x (by simp [ho, Op.operands, Call.operands]), hx] at h2
  have hh' := (ht id (by simp)).trans hh
  obtain ⟨g1, ⟨A0, l0, c0, g2⟩, g3, xs, hown, g5⟩ := r.obj id _ hh'
  have hid : id ∉ O.ids := by simpa using hi
  have hszp : 0 < sz := by simpa [Nat.blt_eq] using hsz
  obtain ⟨i, i1, i2, i3, i4⟩ := T.inf_ok _ (lkT_mem hF)
  have hun : P.underlying t = some (.slice e) := T.desc_ok hT
  subst hn
  generalize hsv : a.eval s = sv at h1
  generalize hxv : a.eval x = xv at h2
  cases h1 with
  | own _ _ _ hone _ _ hvv =>
    have hsv' := hvv g1
    subst hsv'
    cases h2 with
    | d _ _ h2 =>
      cases h2' : h2 with
      | sl _ _ A m c b off vs hm hcap hA hl hcell hrep =>
        obtain ⟨k1, vals, k2, k3, k4, k5, k6, k7⟩ := sl_row h2 hszp
        have hX0 : ∀ o', names o' = [] → ∀ c, c < w.heap.size → XX O ((id, some o') :: h') G c → XX O h' G c := fun o' hn' c _ hc => Rel.turnX (o' := o') hh' (by rw [hn']; rfl) hc
        by_cases hm0 : m = 0
        · subst hm0
          have hnews : news = [] := List.eq_nil_of_length_eq_zero k1
          subst hnews
          have hrun : (execOp a.eval o).run P w = .ok (.value (G.m id)) w := by
            simp only [execOp, ho, resolve, invoke, builtin, Sem.run_bind, Sem.run_pure, Result.andThen_ok, List.map_toArray, List.map_cons, List.map_nil, hsv, hxv, run_append_none hun i1 hown]
          refine wp_value hrun (hK _ w G ?_)
          rw [List.append_nil]
          have r' : Rel O env' ([(id, some (.arr e sz es))] ++ h') a w G := r.weak (fun _ => .inl rfl) (fun j oo hj => by
            rw [List.singleton_append, hget_cons] at hj
            by_cases ej : id = j
            · subst ej; rw [if_pos rfl] at hj; rw [hh', hj]
            · rw [if_neg ej] at hj; exact hj)
          exact r'.put hd (.own id _ _ hone (by rw [g1]; exact Nat.le_refl _) ⟨_, _, _, g2⟩ (fun _ => rfl))
        · obtain ⟨ad, hAd⟩ := k5 (by omega)
          subst hAd
          obtain ⟨v', w', f1, f2, f3, f4, f5⟩ := run_append_own_at (P := P) w 0 t o.type e i z sz by' hun i1 i4 i2 i3 (Nat.eq_of_beq_eq_true hzs) hszp (G.m id) es.length xs hown ad m c vals k2 (k4 ad rfl) k3 (by rw [← k1]; exact h63) (by rw [← k1]; exact hb) (Nat.zero_le _)
          have hrun : (execOp a.eval o).run P w = .ok (.value v') w' := by
            simp only [execOp, ho, resolve, invoke, builtin, Sem.run_bind, Sem.run_pure, Result.andThen_ok, List.map_toArray, List.map_cons, List.map_nil, hsv, hxv, f1]
          have hlen : (es ++ news).length = es.length + m := by rw [List.length_append, k1]
          have hv' : ∃ A' n' c', v' = .slice A' n' c' := by
            rcases f2.2 with ⟨e1, _⟩ | ⟨g, cap, cur, e1, _⟩ <;> exact ⟨_, _, _, e1⟩
          have hblk : ∀ v : Value, (∃ A' n' c', v = .slice A' n' c') → blk v = v.ownBlock := by
            rintro v ⟨A', n', c', rfl⟩
            cases A' <;> rfl
          have hgm := hblk (G.m id) ⟨_, _, _, g2⟩
          have hvm := hblk v' hv'
          have hG : GStep G (G.set id v' (es.length + m)) := fun j => by
            by_cases ej : j = id
            · subst ej
              obtain ⟨A', n', c', e1⟩ := hv'
              exact .inr ⟨_, _, _, g2, ⟨A', n', c', by rw [G.set_m, e1]⟩, by rw [G.set_len, g1]; omega⟩
            · exact .inl ⟨G.set_m_ne _ _ ej, G.set_len_ne _ _ ej⟩
          refine wp_value hrun (hK _ w' (G.set id v' (es.length + m)) ?_)
          have hext := Ext.grown f3 (run_drawn _ _ _ _ f1)
          have hCX : ∀ c, c < w.heap.size → (G.m id).ownBlock = some c → XX O h' G c := fun c _ hc => .inr ⟨id, _, hh', id, List.mem_cons_self, by rw [hgm]; exact hc⟩
          have hX : ∀ c, c < w.heap.size → XX O ((id, some (.arr e sz (es ++ news))) :: h') (G.set id v' (es.length + m)) c → XX O h' G c := by
            intro c hc hx
            rcases hx with hx | ⟨j, oo, q1, k, q2, q3⟩
            · exact .inl hx
            · by_cases ek : k = id
              · subst ek
                rw [G.set_m, hvm] at q3
                rcases f5 with q4 | q4
                · rw [q4] at q3; exact hCX c hc q3
                · rw [q4] at q3
                  simp at q3
                  omega
              · rw [G.set_m_ne _ _ ek] at q3
                rw [hget_cons] at q1
                by_cases ej : id = j
                · subst ej
                  rw [if_pos rfl] at q1
                  cases q1
                  exact absurd (by simpa [names] using q2) ek
                · rw [if_neg ej] at q1
                  exact .inr ⟨j, oo, q1, k, q2, q3⟩
          have hrd : ∀ {y : D} {u : Value}, RepD w (XX O h' G) y u → RepD w' (XX O ((id, some (.arr e sz (es ++ news))) :: h') (G.set id v' (es.length + m))) y u := fun hy => hy.ext hext hCX hX
          have r' : Rel O env' ((id, some (.arr e sz (es ++ news))) :: h') a w' (G.set id v' (es.length + m)) := by
            refine r.turn hh' hext (fun c _ hc => ⟨id, List.mem_cons_self, by rw [hgm]; exact hc⟩) hG (fun j ej => ⟨G.set_m_ne _ _ ej, G.set_len_ne _ _ ej⟩) (fun hc => absurd hc hid) rfl ?_ ?_ ?_ (by simp [names])
            · intro c q1 q2
              rw [G.set_m, hvm] at q1
              rcases f5 with q4 | q4
              · rw [hgm, ← q4]; exact q1
              · rw [q4] at q1
                simp at q1
                omega
            · refine ⟨by rw [G.set_len, hlen], by obtain ⟨A', n', c', e1⟩ := hv'; exact ⟨A', n', c', by rw [G.set_m, e1]⟩, fun j e' hj => ?_, xs ++ vals, by rw [G.set_m, hlen]; exact f2, fun j e' hj q y hq => ?_⟩
              · rw [List.getElem?_append] at hj
                split at hj
                · exact g3 _ e' hj
                · exact k6 _ e' hj
              · have hxl : xs.length = es.length * sz := hown.1
                rw [List.getElem?_append] at hj
                split at hj
                · rename_i hlt
                  obtain ⟨u, u1, u2⟩ := g5 j e' hj q y hq
                  exact ⟨u, by rw [List.getElem?_append_left (List.getElem?_eq_some_iff.1 u1).1]; exact u1, hrd u2⟩
                · rename_i hge
                  obtain ⟨u, u1, u2⟩ := k7 _ e' hj q y hq
                  refine ⟨u, ?_, hrd u2⟩
                  have : j * sz + q = es.length * sz + ((j - es.length) * sz + q) := by
                    have : (j - es.length + es.length) * sz = (j - es.length) * sz + es.length * sz := Nat.add_mul _ _ _
                    rw [Nat.sub_add_cancel (by omega)] at this
                    omega
                  rw [this, List.getElem?_append_right (by rw [hxl]; omega), hxl, Nat.add_sub_cancel_left]
                  exact u1
            · intro c q1
              rw [G.set_m, hvm] at q1
              rcases f5 with q4 | q4
              · right; rw [hgm, ← q4]; exact q1
              · left; rw [q4] at q1; simp at q1; omega
          refine r'.put hd (.own id _ v' ?_ (by rw [G.set_len, hlen]; exact Nat.le_refl _) ?_ (fun _ => (G.set_m _ _ _).symm))
          · obtain ⟨A', n', c', rfl⟩ := hv'; rfl
          · obtain ⟨A', n', c', e1⟩ := hv'
            exact ⟨A', n', c', by rw [G.set_m, e1]⟩
end
end Go.SL
