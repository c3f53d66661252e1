/- The layer 'SL': boxes, stores, structs, slices that are made. -/
import Derived.Test.YtnfgkccocknloaaS5
namespace Go.SL
open Go.RowKit

theorem freshL_data (id : Nat) : ∀ vs : List Value, fresh.freshL id (vs.map fun v => .d (.sc v)) = true
  | [] => rfl
  | v :: r => by
    show (fresh id (.d (.sc v)) && fresh.freshL id (r.map fun v => .d (.sc v))) = true
    rw [freshL_data id r]; rfl
/-- a value's cells -/
def cellsA : AV → Option (List AV)
  | .any | .tup _ => none
  | .agg cs => some cs
  | x => some [x]
theorem cellsA_rep {w : World} {X : Nat → Prop} {G : Ctx} {x : AV} {v : Value} {cs : List AV} (hc : cellsA x = some cs) (h : Rep w X G x v) :
    v.cells.size = cs.length ∧ ∀ (i : Nat) (c : AV) (u : Value), cs[i]? = some c → v.cells[i]? = some u → Rep w X G c u ∧ u.oneCell' = true := by
  have one : ∀ (x : AV) (v : Value), Rep w X G x v → v.oneCell' = true → v.cells.size = [x].length ∧ ∀ (i : Nat) (c : AV) (u : Value), [x][i]? = some c → v.cells[i]? = some u → Rep w X G c u ∧ u.oneCell' = true := by
    intro x v h h1
    have hv : v.cells = #[v] := by cases v <;> first | rfl | cases h1
    rw [hv]
    refine ⟨rfl, fun i c u hi hu => ?_⟩
    match i, hi, hu with
    | 0, hi, hu => simp at hi hu; subst hi; subst hu; exact ⟨h, h1⟩
  cases x with
  | any => cases hc
  | tup => cases hc
  | agg cs' =>
    cases hc
    cases h with
    | agg _ vs hs hcc h1 => exact ⟨hs, fun i c u hi hu => ⟨hcc i c u hi hu, h1 i u hu⟩⟩
  | _ =>
    cases hc
    exact one _ v h (h.one trivial)

theorem evalA_fresh {id : Nat} {env : Env} (h : ∀ t, fresh id (lk env t) = true) (x : Operand) : fresh id (evalA env x) = true := by
  cases x with
  | tmp t => exact h t
  | const v =>
    unfold evalA
    cases v with
    | agg vs =>
      show fresh id (if vs.all (fun v => v.oneCell') then .agg (vs.toList.map fun v => .d (.sc v)) else .any) = true
      split
      · exact freshL_data id vs.toList
      · rfl
    | _ => rfl
  | global g => rfl
  | func f => rfl
theorem cellsA_fresh {id : Nat} {x : AV} {cs : List AV} (hc : cellsA x = some cs) (hx : fresh id x = true) {i : Nat} {c : AV} (hi : cs[i]? = some c) : fresh id c = true := by
  have one : ∀ x : AV, fresh id x = true → [x][i]? = some c → fresh id c = true := by
    intro x hx hi
    match i, hi with
    | 0, hi => simp at hi; subst hi; exact hx
  cases x with
  | any => cases hc
  | tup => cases hc
  | agg cs' => cases hc; unfold fresh at hx; exact freshL_mem hx hi
  | _ => cases hc; exact one _ hx hi

/-- what was known of a value stays known behind a new object -/
theorem Rel.repNew {O : Org} {env : Env} {h : Hp} {a : Act} {w : World} {G : Ctx} (_r : Rel O env h a w G) {id : Nat} {mv : Value} {n : Nat} {ob : Obj} {o : AObj} (hf : freshAt id env h) (hn : names o = [])
    (hmv : ∀ b, blk mv = some b → b = w.heap.size) {x : AV} {v : Value} (hx : fresh id x = true) (hr : Rep w (XX O h G) G x v) : Rep (w.alloc ob) (XX O ((id, some o) :: h) (G.set id mv n)) (G.set id mv n) x v := by
  refine (hr.setFresh mv n hx).ext (Ext.alloc (fun _ => False) w ob) (fun _ _ h => h.elim) (fun b hb hxx => ?_) (GStep.refl _)
  rcases hxx with hxx | hxx
  · exact .inl hxx
  · rcases Own_cons hxx (fun i o' h1 hi j hj => by
      rcases List.mem_cons.1 hj with e | e
      · subst e; exact G.set_m_ne _ _ hi
      · exact G.set_m_ne _ _ (names_ne (hf.2.1 i o' h1) e)) with ⟨j, hj, e⟩ | e
    · have : j = id := by simpa [hn] using hj
      subst this
      rw [G.set_m] at e
      have := hmv b e
      omega
    · exact .inr e
/-- a box with these cells -/
theorem Rel.newBox {O : Org} {env : Env} {h : Hp} {a : Act} {w : World} {G : Ctx} (r : Rel O env h a w G) {id t : Nat} {arr : Array Value} {cs : List AV} (hf : freshAt id env h) (hid : id ∉ O.ids) (hs : arr.size = cs.length)
    (hc : ∀ (i : Nat) (c : AV) (v : Value), cs[i]? = some c → arr[i]? = some v → fresh id c = true ∧ Rep w (XX O h G) G c v ∧ v.oneCell' = true) :
    Rel O env ((id, some (.cells cs)) :: h) a (w.alloc (.cells arr t)) (G.set id (.pointer (some ⟨w.heap.size, 0, none⟩)) 0) :=
  r.new hf hid rfl (fun b hb => by cases hb; rfl) ⟨w.heap.size, arr, t, G.set_m _ _ _, heap_alloc_new w _, hs, fun i c v hi hv =>
    let ⟨h1, h2, h3⟩ := hc i c v hi hv
    ⟨r.repNew hf rfl (fun b hb => by cases hb; rfl) h1 h2, h3⟩⟩

section
variable {P : Program} {O : Org} {T : Tab P} {Q : Exit → Env → Hp → Prop} {env : Env} {h : Hp} {all rest : List Oper} {o : Oper} {rs : List Rc}

/-- a value is boxed -/
theorem LStep_box {t id : Nat} {x : Operand} {cs : List AV} (ho : o.op = .box t x) (hd : o.dst = some id) (hn : dstOk (some id) O.nt = true) (hc : cellsA (evalA env x) = some cs) (hi : O.ids.contains id = false) :
    LStep P O o env h [] [id] (.ptr id 0) [(id, some (.cells cs))] := by
  intro env' h' he _ hf a w G r K Q hK
  have hf' := hf id (by simp)
  have hx := he x (by simp [ho, Op.operands])
  have h1 := evalA_rep r.env x
  have hfx := evalA_fresh hf'.1 x
  rw [hx] at h1 hfx
  obtain ⟨hs, hcc⟩ := cellsA_rep hc h1
  have hid : id ∉ O.ids := by simpa using hi
  have hrun : (execOp a.eval o).run P w = .ok (.value (.pointer (some ⟨w.heap.size, 0, none⟩))) (w.alloc (.cells (a.eval x).cells t)) := by
    simp [execOp, ho, Instr.box, newVar, newRow]
  have r' := r.newBox (id := id) (t := t) (arr := (a.eval x).cells) (cs := cs) hf' hid hs (fun i c v hi hv => ⟨cellsA_fresh hc hfx hi, hcc i c v hi hv⟩)
  exact wp_value hrun (hK _ _ _ (r'.put (by rw [hd]; exact hn) (.ptr id 0 w.heap.size (G.set_m _ _ _))))

/-- the zero value's cells -/
def Tab.zeroC (T : Tab P) (t : Nat) : Option (List AV) :=
  match lkT T.inf t with
  | some (_, _, z) => bif z.cells.toList.all (fun v => v.oneCell') then some (z.cells.toList.map fun v => .d (.sc v)) else none
  | none => none
theorem zeroC_run {t : Nat} {cs : List AV} (hz : T.zeroC t = some cs) (w : World) : ∃ z, (zeroValue t).run P w = .ok z w ∧ z.cells.toList.map (fun v => AV.d (.sc v)) = cs ∧ ∀ v ∈ z.cells.toList, v.oneCell' = true := by
  unfold Tab.zeroC at hz
  cases h1 : lkT T.inf t with
  | none => rw [h1] at hz; cases hz
  | some p =>
    obtain ⟨s, b, z⟩ := p
    rw [h1] at hz
    simp only at hz
    cases hall : z.cells.toList.all (fun v => v.oneCell') with
    | true =>
      rw [hall] at hz
      cases hz
      obtain ⟨i, e1, _, _, e4⟩ := T.inf_ok _ (lkT_mem h1)
      refine ⟨z, by simp [zeroValue, typeInfo, e1, e4], rfl, fun v hv => ?_⟩
      rw [List.all_eq_true] at hall
      exact hall v hv
    | false => rw [hall] at hz; cases hz
/-- a new variable -/
theorem LStep_alloc {t id : Nat} {cs : List AV} (ho : o.op = .alloc t) (hd : o.dst = some id) (hn : dstOk (some id) O.nt = true) (hc : T.zeroC t = some cs) (hi : O.ids.contains id = false) :
    LStep P O o env h [] [id] (.ptr id 0) [(id, some (.cells cs))] := by
  intro env' h' he _ hf a w G r K Q hK
  have hf' := hf id (by simp)
  obtain ⟨z, hz, rfl, hone⟩ := zeroC_run hc w
  have hid : id ∉ O.ids := by simpa using hi
  have hrun : (execOp a.eval o).run P w = .ok (.value (.pointer (some ⟨w.heap.size, 0, none⟩))) (w.alloc (.cells z.cells t)) := by
    simp [execOp, ho, Instr.alloc, hz, newVar, newRow]
  have r' := r.newBox (id := id) (t := t) (arr := z.cells) (cs := z.cells.toList.map fun v => .d (.sc v)) hf' hid (by simp) (fun i c v hi hv => by
    simp only [List.getElem?_map, Array.getElem?_toList, hv, Option.map_some, Option.some.injEq] at hi
    subst hi
    have := hone v (List.mem_of_getElem? (by rw [Array.getElem?_toList]; exact hv))
    exact ⟨rfl, .d _ _ (.sc _ this), this⟩)
  exact wp_value hrun (hK _ _ _ (r'.put (by rw [hd]; exact hn) (.ptr id 0 w.heap.size (G.set_m _ _ _))))

/-! ### a store into a box -/
def setsA : List AV → Nat → List AV → List AV
  | cs, _, [] => cs
  | cs, k, c :: r => setsA (cs.set k c) (k + 1) r
theorem run_stores {b : Nat} {t : TypeId} : ∀ (vs : List Value) (q i : Nat) (arr : Array Value) (w : World), w.heap[b]? = some (.cells arr t (0, 0)) → q + i + vs.length ≤ arr.size → (∀ v ∈ vs, v.oneCell' = true) →
    ∃ w' arr', (storeCells ⟨b, q, none⟩ vs i).run P w = .ok () w' ∧ w'.heap[b]? = some (.cells arr' t (0, 0)) ∧ Ext (fun x => x = b) w w' ∧ arr'.size = arr.size ∧
      ∀ j, arr'[j]? = if q + i ≤ j ∧ j < q + i + vs.length then vs[j - (q + i)]? else arr[j]?
  | [], q, i, arr, w, h, _, _ => ⟨w, arr, rfl, h, Ext.refl _ w, rfl, fun j => by rw [if_neg (by simp; try omega)]⟩
  | v :: vs, q, i, arr, w, h, hl, h1 => by
    have hv := h1 v List.mem_cons_self
    have hlt : q + i < arr.size := by simp at hl; omega
    have hcell : w.cell? ⟨b, q + i, none⟩ = some arr[q + i] := by rw [cell_of_row w b (q + i) arr t (0, 0) h]; exact Array.getElem?_eq_getElem hlt
    have hfr : w.frozen? ⟨b, q + i, none⟩ = false := by simp [World.frozen?, h]
    have hheap : (w.setCell ⟨b, q + i, none⟩ v).heap[b]? = some (.cells (arr.setIfInBounds (q + i) v) t (0, 0)) := by
      simp [World.setCell, Array.getElem?_modify, h]
    obtain ⟨w', arr', e1, e2, e3, e4, e5⟩ := run_stores vs q (i + 1) (arr.setIfInBounds (q + i) v) (w.setCell ⟨b, q + i, none⟩ v) hheap (by simp at hl ⊢; omega) (fun u hu => h1 u (List.mem_cons_of_mem _ hu))
    refine ⟨w', arr', ?_, e2, (Ext.setCell w ⟨b, q + i, none⟩ v).trans e3, by simpa using e4, fun j => ?_⟩
    · unfold storeCells
      simp only [Sem.run_bind, Addr.add_lit, run_store P w _ v .plain hv, hcell, hfr, Bool.false_eq_true, if_false, Result.andThen_ok]
      exact e1
    · rw [e5 j]
      simp only [List.length_cons]
      by_cases c1 : q + (i + 1) ≤ j ∧ j < q + (i + 1) + vs.length
      · rw [if_pos c1, if_pos (by omega)]
        rw [show j - (q + i) = (j - (q + (i + 1))) + 1 by omega, List.getElem?_cons_succ]
      · rw [if_neg c1]
        by_cases c2 : j = q + i
        · subst c2
          rw [if_pos (by omega), Array.getElem?_setIfInBounds_self_of_lt hlt]
          simp
        · rw [if_neg (by omega), Array.getElem?_setIfInBounds_ne (fun e => c2 e.symm)]
theorem setsA_len : ∀ (l cs : List AV) (k : Nat), (setsA cs k l).length = cs.length
  | [], _, _ => rfl
  | c :: r, cs, k => by unfold setsA; rw [setsA_len r]; simp
theorem setsA_get : ∀ (l cs : List AV) (k j : Nat), k + l.length ≤ cs.length → (setsA cs k l)[j]? = if k ≤ j ∧ j < k + l.length then l[j - k]? else cs[j]?
  | [], cs, k, j, _ => by rw [if_neg (by simp)]; rfl
  | c :: r, cs, k, j, h => by
    unfold setsA
    rw [setsA_get r (cs.set k c) (k + 1) j (by simp at h ⊢; omega)]
    simp only [List.length_cons] at h ⊢
    by_cases c1 : k + 1 ≤ j ∧ j < k + 1 + r.length
    · rw [if_pos c1, if_pos (by omega), show j - k = (j - (k + 1)) + 1 by omega, List.getElem?_cons_succ]
    · rw [if_neg c1]
      by_cases c2 : j = k
      · subst c2
        rw [if_pos (by omega), List.getElem?_set_self (by omega)]
        simp
      · rw [if_neg (by omega), List.getElem?_set_ne (fun e => c2 e.symm)]

theorem Rel.turnX {O : Org} {h : Hp} {G : Ctx} {id : Nat} {o o' : AObj} (hh : hget h id = some o) (hnm : names o' = names o) {b : Nat} (hx : XX O ((id, some o') :: h) G b) : XX O h G b := by
  rcases hx with hx | hx
  · exact .inl hx
  · obtain ⟨i, oo, h1, j, hj, hbb⟩ := hx
    rw [hget_cons] at h1
    by_cases e : id = i
    · subst e
      rw [if_pos rfl] at h1
      cases h1
      exact .inr ⟨id, o, hh, j, by rw [← hnm]; exact hj, hbb⟩
    · rw [if_neg e] at h1
      exact .inr ⟨i, oo, h1, j, hj, hbb⟩

/-- a store into a box -/
theorem LStep_store {t n id q : Nat} {x y : Operand} {cs vs : List AV} (ho : o.op = .store t x y) (hd : o.dst = none) (hn : T.size t = some n) (hx : evalA env x = .ptr id q) (hh : hget h id = some (.cells cs)) (hv : cellsA (evalA env y) = some vs)
    (hl : vs.length = n) (hfit : q + n ≤ cs.length) : LStep P O o env h [id] [] (.tup []) [(id, some (.cells (setsA cs q vs)))] := by
  intro env' h' he ht _ a w G r K Q hK
  have h1 := evalA_rep r.env x
  have h2 := evalA_rep r.env y
  rw [he x (by simp [ho, Op.operands]), hx] at h1
  rw [he y (by simp [ho, Op.operands])] at h2
  obtain ⟨hs, hcc⟩ := cellsA_rep hv h2
  have hh' := (ht id (by simp)).trans hh
  obtain ⟨b, arr, ty, e1, e2, e3, e4⟩ := r.obj id _ hh'
  generalize hvv : a.eval x = v at h1
  cases h1 with
  | ptr _ _ b' hb =>
    obtain rfl : b = b' := by rw [e1] at hb; injection hb with hb; injection hb with hb; injection hb
    have hlen : (a.eval y).cells.toList.length = n := by rw [Array.length_toList, hs, hl]
    obtain ⟨w', arr', f1, f2, f3, f4, f5⟩ := run_stores (P := P) (a.eval y).cells.toList q 0 arr w e2 (by omega) (fun u hu => by
      obtain ⟨i, hi, e⟩ := List.getElem_of_mem hu
      have hi' : i < vs.length := by rw [Array.length_toList, hs] at hi; exact hi
      exact (hcc i vs[i] u (List.getElem?_eq_getElem hi') (by rw [← Array.getElem?_toList, List.getElem?_eq_getElem hi, e])).2)
    have hrun : (execOp a.eval o).run P w = .ok .skip w' := by
      have hsz : (a.eval y).cells.size = n := by rw [hs, hl]
      simp [execOp, ho, hvv, Instr.storeAt, Instr.sureAddr, storeVar, run_size T hn, hsz, f1]
    have hown : XX O h' G b := .inr ⟨id, _, hh', id, List.mem_cons_self, by rw [e1]; rfl⟩
    have hX : ∀ c, c < w.heap.size → XX O ((id, some (.cells (setsA cs q vs))) :: h') G c → XX O h' G c := fun c _ hc => Rel.turnX (o' := .cells (setsA cs q vs)) hh' rfl hc
    have hr : ∀ {z : AV} {u : Value}, Rep w (XX O h' G) G z u → Rep w' (XX O ((id, some (.cells (setsA cs q vs))) :: h') G) G z u :=
      fun hz => hz.ext f3 (fun c _ hc => by subst hc; exact hown) hX (GStep.refl G)
    refine wp_skipped hrun (hK undef w' G ?_)
    rw [hd]
    refine r.turn hh' f3 (fun c _ hc => ⟨id, List.mem_cons_self, by subst hc; rw [e1]; rfl⟩) (GStep.refl G) (fun _ _ => ⟨rfl, rfl⟩) (fun _ => rfl) rfl (fun _ h _ => h) ?_ (fun _ h => .inr h) (by simp [names])
    refine ⟨b, arr', ty, e1, f2, by rw [f4, e3, setsA_len], fun i c u hi hu => ?_⟩
    rw [setsA_get vs cs q i (by omega)] at hi
    rw [f5 i] at hu
    by_cases ci : q ≤ i ∧ i < q + vs.length
    · rw [if_pos ci] at hi
      rw [if_pos (by rw [Array.length_toList, hs]; omega)] at hu
      rw [Nat.add_zero, Array.getElem?_toList] at hu
      exact ⟨hr (hcc _ c u hi hu).1, (hcc _ c u hi hu).2⟩
    · rw [if_neg ci] at hi
      rw [if_neg (by rw [Array.length_toList, hs]; omega)] at hu
      exact ⟨hr (e4 i c u hi hu).1, (e4 i c u hi hu).2⟩

/-! ### a struct is built -/
def fillA (fs : List (Nat × Nat)) : List AV → List (Nat × AV) → Option (List AV)
  | cs, [] => some cs
  | cs, (i, v) :: rest => match fs[i]? with
    | some (off, n) => match cellsA v with
      | some vs => if vs.length = n ∧ off + n ≤ cs.length then fillA fs (setsA cs off vs) rest else none
      | none => none
    | none => none
def CellsRep (w : World) (X : Nat → Prop) (G : Ctx) (cs : List AV) (vs : Array Value) : Prop :=
  vs.size = cs.length ∧ ∀ (i : Nat) (c : AV) (v : Value), cs[i]? = some c → vs[i]? = some v → Rep w X G c v ∧ v.oneCell' = true
theorem foldSet {off : Nat} : ∀ (l : List Value) (k : Nat) (vs : Array Value), ((l.zipIdx k).foldl (fun cs (p : Value × Nat) => cs.setIfInBounds (off + p.2) p.1) vs).size = vs.size ∧
    ∀ j, off + k + l.length ≤ vs.size → ((l.zipIdx k).foldl (fun cs (p : Value × Nat) => cs.setIfInBounds (off + p.2) p.1) vs)[j]? = if off + k ≤ j ∧ j < off + k + l.length then l[j - (off + k)]? else vs[j]?
  | [], k, vs => ⟨rfl, fun j _ => by rw [if_neg (by simp)]; rfl⟩
  | v :: l, k, vs => by
    obtain ⟨h1, h2⟩ := foldSet (off := off) l (k + 1) (vs.setIfInBounds (off + k) v)
    refine ⟨by simpa using h1, fun j hl => ?_⟩
    simp only [List.length_cons] at hl
    have := h2 j (by simp; omega)
    simp only [List.zipIdx_cons, List.foldl_cons, List.length_cons]
    rw [this]
    by_cases c1 : off + (k + 1) ≤ j ∧ j < off + (k + 1) + l.length
    · rw [if_pos c1, if_pos (by omega), show j - (off + k) = (j - (off + (k + 1))) + 1 by omega, List.getElem?_cons_succ]
    · rw [if_neg c1]
      by_cases c2 : j = off + k
      · subst c2
        rw [if_pos (by omega), Array.getElem?_setIfInBounds_self_of_lt (by omega)]
        simp
      · rw [if_neg (by omega), Array.getElem?_setIfInBounds_ne (fun e => c2 e.symm)]
theorem fill_rep {w : World} {X : Nat → Prop} {G : Ctx} {fs : List (Nat × Nat)} {place : Nat → Option (Nat × Nat)} (hp : ∀ i p, fs[i]? = some p → place i = some p) : ∀ (parts : List (Nat × AV)) (vparts : List (Nat × Value)) (cs out : List AV) (vs : Array Value),
    fillA fs cs parts = some out → CellsRep w X G cs vs → vparts.length = parts.length → (∀ (k : Nat) (p : Nat × AV) (q : Nat × Value), parts[k]? = some p → vparts[k]? = some q → q.1 = p.1 ∧ Rep w X G p.2 q.2) →
    ∃ vout, Instr.fill place vs vparts = some vout ∧ CellsRep w X G out vout
  | [], vparts, cs, out, vs, h, hc, hl, _ => by
    have : vparts = [] := List.eq_nil_of_length_eq_zero hl
    subst this
    cases h
    exact ⟨vs, rfl, hc⟩
  | (i, x) :: parts, vparts, cs, out, vs, h, hc, hl, hq => by
    match vparts, hl with
    | (i', v) :: vparts, hl =>
      obtain ⟨e1, e2⟩ := hq 0 _ _ rfl rfl
      simp only at e1 e2
      subst e1
      unfold fillA at h
      cases hfs : fs[i']? with
      | none => rw [hfs] at h; cases h
      | some p =>
        obtain ⟨off, n⟩ := p
        rw [hfs] at h
        simp only at h
        cases hx : cellsA x with
        | none => rw [hx] at h; cases h
        | some xs =>
          rw [hx] at h
          simp only at h
          split at h
          · rename_i hfit
            obtain ⟨hs, hcc⟩ := cellsA_rep hx e2
            obtain ⟨g1, g2⟩ := foldSet (off := off) v.cells.toList 0 vs
            have hc' : CellsRep w X G (setsA cs off xs) ((v.cells.toList.zipIdx 0).foldl (fun cs (p : Value × Nat) => cs.setIfInBounds (off + p.2) p.1) vs) := by
              refine ⟨by rw [g1, hc.1, setsA_len], fun j c u hj hu => ?_⟩
              rw [setsA_get xs cs off j (by omega)] at hj
              rw [g2 j (by rw [Array.length_toList, hs, hc.1]; omega), Array.length_toList, hs] at hu
              by_cases cj : off ≤ j ∧ j < off + xs.length
              · rw [if_pos cj] at hj
                rw [if_pos (by omega), Nat.add_zero, Array.getElem?_toList] at hu
                exact hcc _ c u hj hu
              · rw [if_neg cj] at hj
                rw [if_neg (by omega)] at hu
                exact hc.2 j c u hj hu
            obtain ⟨vout, f1, f2⟩ := fill_rep hp parts vparts _ out _ h hc' (by simpa using hl) (fun k p q hp' hq' => hq (k + 1) p q (by simpa using hp') (by simpa using hq'))
            refine ⟨vout, ?_, f2⟩
            unfold Instr.fill
            rw [hp i' _ hfs]
            simp only
            rw [if_neg (by rw [hs, hc.1, hfit.1]; simp; omega)]
            rw [← Array.foldl_toList, Array.toList_zipIdx]
            exact f1
          · cases h
/-- the struct's places -/
def placesOf (T : Tab P) : List (Nat × Nat) → Option (List (Nat × Nat))
  | [] => some []
  | (off, ft) :: r => match T.size ft with
    | some n => match placesOf T r with
      | some l => some ((off, n) :: l)
      | none => none
    | none => none
theorem run_places {w : World} : ∀ (fs : List Field) (pl : List (Nat × Nat)), placesOf T (fs.map fun f => (f.offset, f.type)) = some pl → (fs.mapM (m := Sem) fun f => do pure (f.offset, ← sizeOf f.type)).run P w = .ok pl w
  | [], pl, h => by cases h; rfl
  | f :: fs, pl, h => by
    simp only [List.map_cons, placesOf] at h
    cases hn : T.size f.type with
    | none => rw [hn] at h; cases h
    | some n =>
      rw [hn] at h
      simp only at h
      cases hp : placesOf T (fs.map fun f => (f.offset, f.type)) with
      | none => rw [hp] at h; cases h
      | some l =>
        rw [hp] at h
        cases h
        simp only [List.mapM_cons, Sem.run_bind, run_size T hn, Result.andThen_ok, Sem.run_pure, run_places fs l hp]
theorem LStep_build {t : Nat} {parts : Array (Nat × Operand)} {l pl : List (Nat × Nat)} {zs out : List AV} (ho : o.op = .build t parts) (hT : T.desc t = some (.struct l)) (hpl : placesOf T l = some pl) (hz : T.zeroC t = some zs)
    (hf : fillA pl zs (parts.toList.map fun p => (p.1, evalA env p.2)) = some out) (hd : dstOk o.dst O.nt = true) : LStep P O o env h [] [] (.agg out) [] := by
  refine .quiet hd (fun env' h' he _ a w G r => ?_)
  obtain ⟨fs, h1, h2⟩ := T.desc_ok hT
  obtain ⟨z, hz1, hz2, hz3⟩ := zeroC_run hz w
  have hzr : CellsRep w (XX O h' G) G zs z.cells := by
    refine ⟨by rw [← hz2]; simp, fun i c v hi hv => ?_⟩
    rw [← hz2] at hi
    simp only [List.getElem?_map, Array.getElem?_toList, hv, Option.map_some, Option.some.injEq] at hi
    subst hi
    have := hz3 v (List.mem_of_getElem? (by rw [Array.getElem?_toList]; exact hv))
    exact ⟨.d _ _ (.sc _ this), this⟩
  obtain ⟨vout, f1, f2⟩ := fill_rep (w := w) (X := XX O h' G) (G := G) (fs := pl) (place := fun i => pl.toArray[i]?) (fun i p hp => by simpa using hp) (parts.toList.map fun p => (p.1, evalA env p.2)) (parts.toList.map fun p => (p.1, a.eval p.2)) zs out z.cells hf hzr (by simp) (fun k p q hp hq => by
    simp only [List.getElem?_map, Option.map_eq_some_iff] at hp hq
    obtain ⟨p0, hp0, rfl⟩ := hp
    obtain ⟨q0, hq0, rfl⟩ := hq
    rw [hp0] at hq0
    cases hq0
    refine ⟨rfl, ?_⟩
    have := evalA_rep r.env p0.2
    rwa [he p0.2 (by
      have := List.mem_of_getElem? hp0
      simp only [ho, Op.operands]
      exact List.mem_map.2 ⟨p0, this, rfl⟩)] at this)
  refine ⟨.agg vout, ?_, .agg _ _ f2.1 (fun i c v hi hv => (f2.2 i c v hi hv).1) (fun i v hv => ?_)⟩
  · have hm : (fs.mapM (m := Sem) fun f => do pure (f.offset, ← sizeOf f.type)).run P w = .ok pl.toArray w := by
      have := run_places (P := P) (T := T) (w := w) fs.toList pl (by rw [h2]; exact hpl)
      have e : fs.mapM (m := Sem) (fun f => do pure (f.offset, ← sizeOf f.type)) = List.toArray <$> fs.toList.mapM (m := Sem) (fun f => do pure (f.offset, ← sizeOf f.type)) := by
        rw [← List.mapM_toArray]
      rw [e]
      simp only [Sem.run_map, this, Result.andThen_ok]
    have hparts : (parts.map fun x => (x.1, a.eval x.2)).toList = parts.toList.map fun p => (p.1, a.eval p.2) := by simp
    simp only [execOp, ho, Instr.build, Sem.run_bind, hz1, Result.andThen_ok, run_underlying h1, hm, hparts, f1, Sem.run_pure]
  · have hlt : i < out.length := by rw [← f2.1]; exact (Array.getElem?_eq_some_iff.1 hv).1
    exact (f2.2 i out[i] v (List.getElem?_eq_getElem hlt) hv).2
end
end Go.SL
