/- The layer 'SL': maps whose entries bear their places as stamps (made here, never deleted from). -/
import Derived.Test.YtofdnkgieigncaaGreatSv
namespace Go.SL
open Go.RowKit Go.MapKept
section
variable {P : Program} {O : Org} {T : Tab P} {Q : Exit → Env → Hp → Prop} {env : Env} {h : Hp} {all rest : List Oper} {o : Oper}
theorem LStep_makeMapF {t kt et id : Nat} (ho : o.op = .makeMap t none) (_hT : T.desc t = some (.map kt et)) (hd : o.dst = some id) (hn : dstOk (some id) O.nt = true) (hi : O.ids.contains id = false) :
    LStep P O o env h [] [id] (.mp id) [(id, some (.mapF kt et []))] := by
  intro env' h' he _ hf a w G r K Q hK
  have hf' := hf id (by simp)
  have hid : id ∉ O.ids := by simpa using hi
  have hrun : (execOp a.eval o).run P w = .ok (.value (.map (some w.heap.size))) (w.alloc (.map #[] 0)) := by
    have h0 : (Instr.makeMap t none).run P w = .ok (.map (some w.heap.size)) (w.alloc (.map #[] 0)) := rfl
    simp [execOp, ho, h0]
  have r' := r.new (ob := .map #[] 0) (id := id) (mv := .map (some w.heap.size)) (n := 0) (o := .mapF kt et []) hf' hid rfl (fun b hb => by cases hb; rfl)
    ⟨w.heap.size, #[], G.set_m _ _ _, (heap_alloc w _).1, rfl, fun i k c e hi => by simp at hi, fun i e hi => by simp at hi⟩
  exact wp_value hrun (hK _ _ _ (r'.put (by rw [hd]; exact hn) (.mp id w.heap.size (G.set_m _ _ _))))
/-- such a map is a map -/
theorem ObjRep.ofF {w : World} {X : Nat → Prop} {G : Ctx} {id kt et : Nat} {es : List (Value × AV)} (h : ObjRep w X G id (.mapF kt et es)) : ObjRep w X G id (.map kt et es none) := by
  obtain ⟨b, ents, h1, h2, h3, h4, h5⟩ := h
  refine ⟨b, ents, es.length, h1, h2, h3, h4, fun i j e e' hi hj hb => ?_, fun e he => ?_, trivial⟩
  · rw [h5 i e hi, h5 j e' hj] at hb
    exact hb
  · obtain ⟨i, hi, he⟩ := List.getElem_of_mem he
    have hi' : i < ents.size := by simpa using hi
    have hq : ents[i]? = some e := by rw [Array.getElem?_eq_getElem hi']; exact congrArg some (by rw [← he]; simp)
    have := h5 i e hq
    omega
/-- .. and is taken as one -/
theorem Rel.unF {a : Act} {w : World} {G : Ctx} {m kt et : Nat} {es : List (Value × AV)} (r : Rel O env h a w G) (hh : hget h m = some (.mapF kt et es)) : Rel O env ((m, some (.map kt et es none)) :: h) a w G := by
  have conv : ∀ j o', hget ((m, some (.map kt et es none)) :: h) j = some o' → ∃ o0, hget h j = some o0 ∧ ∀ q, q ∈ j :: names o' → q ∈ j :: names o0 := by
    intro j o' h1
    rw [hget_cons] at h1
    by_cases e : m = j
    · subst e
      rw [if_pos rfl] at h1
      cases h1
      exact ⟨_, hh, fun q hq => by
        have : q = m := by simpa [names] using hq
        subst this
        exact List.mem_cons_self⟩
    · rw [if_neg e] at h1
      exact ⟨o', h1, fun q hq => hq⟩
  have hO : ∀ b, Own ((m, some (.map kt et es none)) :: h) G b → Own h G b := by
    intro b ⟨j, o', h1, q, hq, hb⟩
    obtain ⟨o0, h2, h3⟩ := conv j o' h1
    exact ⟨j, o0, h2, q, h3 q hq, hb⟩
  have hX : ∀ b, b < w.heap.size → XX O ((m, some (.map kt et es none)) :: h) G b → XX O h G b := fun b _ hx => hx.imp (fun q => q) (hO b)
  refine ⟨r.size, r.dfr, fun t => (r.env t).ext (Ext.refl (fun _ => False) w) (fun _ _ h => h.elim) hX (GStep.refl G), fun j o' h1 => ?_, fun j o1 q j' o2 q' b h1 hq h2 hq' e1 e2 => ?_, r.ext, fun b hb => r.own b (hO b hb), r.xlt, r.ids⟩
  · rw [hget_cons] at h1
    by_cases e : m = j
    · subst e
      rw [if_pos rfl] at h1
      cases h1
      exact ((r.obj m _ hh).ofF).mono hX
    · rw [if_neg e] at h1
      exact (r.obj j o' h1).mono hX
  · obtain ⟨p1, g1, g2⟩ := conv j o1 h1
    obtain ⟨p2, g3, g4⟩ := conv j' o2 h2
    exact r.dist j p1 q j' p2 q' b g1 (g2 q hq) g3 (g4 q' hq') e1 e2
theorem AW_unF {c : Code} {m kt et : Nat} {es : List (Value × AV)} (hh : hget h m = some (.mapF kt et es)) (K : AW P O c Q env ((m, some (.map kt et es none)) :: h)) : AW P O c Q env h :=
  fun a w G r => K a w G (r.unF hh)
/-- what an entry is asked for: its element, its place, and the map then -/
def mentry (k : Value) (z : AV) (es : List (Value × AV)) : AV × Nat × List (Value × AV) := match mat k es 0 with
  | some (j, c) => (c, j, es)
  | none => (z, es.length, es ++ [(k, z)])
variable {t kt et id : Nat} {x i : Operand} {es : List (Value × AV)} {dk : KK} {k : Value} {c : AV}
theorem LStep_mapEntry {v : Value} {j kt' et' : Nat} {es' : List (Value × AV)} (ho : o.op = .mapEntry t x i) (hd : dstOk o.dst O.nt = true) (hT : T.desc t = some (.map kt et)) (hK : T.keyD kt = some dk) (hx : evalA env x = .mp id) (hi : keyV (evalA env i) = some k) (hk : keyB dk k = true)
    (hh : hget h id = some (.mapF kt' et' es)) (hz : (lkT T.inf et).map (·.2.2) = some v) (h1 : v.oneCell' = true) (hb : ∀ p ∈ es, keyB dk p.1 = true) (hm : mentry k (.d (.sc v)) es = (c, j, es')) :
    LStep P O o env h [id] [] (.tup [c, .d (.sc (.int .i64 (j : Nat)))]) [(id, some (.mapF kt' et' es'))] := by
  intro env' h' he hTs _ a w G r K Q hKK
  have h1' := evalA_rep r.env x
  have h2 := evalA_rep r.env i
  rw [he x (by simp [ho, Op.operands]), hx] at h1'
  rw [he i (by simp [ho, Op.operands])] at h2
  replace h2 := keyV_rep hi h2
  have hh' := (hTs id (by simp)).trans hh
  obtain ⟨b, ents, e1, e2, e3, e4, e5⟩ := r.obj id _ hh'
  obtain ⟨q, f1, f2⟩ := find_mat hK hk es ents.toList hb (by simpa using e3) (fun j p e hj hj' => (e4 j p.1 p.2 e hj (by rw [← Array.getElem?_toList]; exact hj')).1)
  generalize hv : a.eval x = xv at h1'
  cases h1' with
  | mp _ b' hb' =>
    obtain rfl : b = b' := by rw [e1] at hb'; cases hb'; rfl
    have hown : XX O h' G b := .inr ⟨id, _, hh', id, List.mem_cons_self, by rw [e1]; rfl⟩
    unfold mentry at hm
    unfold FoundAt at f2
    cases hmm : mat k es 0 with
    | some p =>
      obtain ⟨j0, c0⟩ := p
      rw [hmm] at f2 hm
      simp only [Prod.mk.injEq] at hm
      obtain ⟨rfl, rfl, rfl⟩ := hm
      obtain ⟨_, e, k', g1, g2, rfl, rfl⟩ := f2
      rw [Nat.sub_zero] at g1 g2
      rw [Array.getElem?_toList] at g1
      obtain ⟨g4, g5, g6⟩ := e4 j0 k' c0 e g2 g1
      have hborn := e5 j0 e g1
      have hmod : (ents.modify j0 fun e => { e with key := k' }) = ents := by
        apply Array.ext_getElem?
        intro n
        rw [Array.getElem?_modify]
        by_cases hj : j0 = n
        · subst hj
          rw [if_pos rfl, g1, Option.map_some]
          refine congrArg some ?_
          cases e
          simp only at g4
          subst g4
          rfl
        · rw [if_neg hj]
      have hrun : (execOp a.eval o).run P w = .ok (.value (.tuple #[e.val, .int .i64 (j0 : Nat)])) { w with heap := w.heap.setIfInBounds b (.map ents es.length) } := by
        simp [execOp, ho, hv, h2, Instr.mapEntry, run_underlying (T.desc_ok hT), Go.MapKept.run_getObj_map e2, chk_run hK hk, f1, g1, g4, stays_run hk, hmod, run_setObj_map _ e2, Result.andThen, goInt, hborn]
      have hs := heap_set (o' := .map ents es.length) e2
      have hext : Ext (fun n => n = b) w { w with heap := w.heap.setIfInBounds b (.map ents es.length) } := ⟨rfl, rfl, rfl, by simp, fun n _ hne => hs.2 n hne, Nat.le_refl _⟩
      have hX : ∀ n, n < w.heap.size → XX O ((id, some (.mapF kt' et' es)) :: h') G n → XX O h' G n := fun n _ hc => Rel.turnX (o' := .mapF kt' et' es) hh' rfl hc
      have hr : ∀ {z : AV} {u : Value}, Rep w (XX O h' G) G z u → Rep { w with heap := w.heap.setIfInBounds b (.map ents es.length) } (XX O ((id, some (.mapF kt' et' es)) :: h') G) G z u :=
        fun hz => hz.ext hext (fun n _ hc => by subst hc; exact hown) hX (GStep.refl G)
      have r1 := r.turn (o' := .mapF kt' et' es) hh' hext (fun n _ hc => ⟨id, List.mem_cons_self, by subst hc; rw [e1]; rfl⟩) (GStep.refl G) (fun _ _ => ⟨rfl, rfl⟩) (fun _ => rfl) rfl (fun _ h _ => h)
        ⟨b, ents, e1, hs.1, e3, fun n k c e h1 h2 => ⟨(e4 n k c e h1 h2).1, hr (e4 n k c e h1 h2).2.1, (e4 n k c e h1 h2).2.2⟩, e5⟩ (fun _ h => .inr h) (by simp [names])
      refine wp_value hrun (hKK _ _ G (r1.put hd (.tup _ _ rfl (fun n y u hy hu => ?_))))
      match n, hy, hu with
      | 0, hy, hu => simp at hy hu; subst hy; subst hu; exact hr g5
      | 1, hy, hu => simp at hy hu; subst hy; subst hu; exact .d _ _ (.sc _ rfl)
      | n + 2, hy, _ => simp at hy
    | none =>
      rw [hmm] at f2 hm
      subst f2
      simp only [Prod.mk.injEq] at hm
      obtain ⟨rfl, rfl, rfl⟩ := hm
      have hzr : ∀ w : World, (zeroValue et).run P w = .ok v w := by
        intro w
        cases hl : lkT T.inf et with
        | none => rw [hl] at hz; cases hz
        | some p =>
          obtain ⟨s, b, z⟩ := p
          rw [hl] at hz
          cases hz
          obtain ⟨i, e1, _, _, e4⟩ := T.inf_ok _ (lkT_mem hl)
          simp [zeroValue, typeInfo, e1, e4]
      generalize hob : Obj.map (ents.push { key := k, val := v, born := es.length }) (es.length + 1) = ob
      have hrun : (execOp a.eval o).run P w = .ok (.value (.tuple #[v, .int .i64 (es.length : Nat)])) { w with heap := w.heap.setIfInBounds b ob } := by
        rw [← hob]
        simp [execOp, ho, hv, h2, Instr.mapEntry, run_underlying (T.desc_ok hT), Go.MapKept.run_getObj_map e2, chk_run hK hk, f1, hzr, run_setObj_map _ e2, Result.andThen, goInt]
      have hs := heap_set (o' := ob) e2
      have hext : Ext (fun n => n = b) w { w with heap := w.heap.setIfInBounds b ob } := ⟨rfl, rfl, rfl, by simp, fun n _ hne => hs.2 n hne, Nat.le_refl _⟩
      generalize hes : es ++ [(k, AV.d (.sc v))] = es2 at hKK
      have hX : ∀ n, n < w.heap.size → XX O ((id, some (.mapF kt' et' es2)) :: h') G n → XX O h' G n := fun n _ hc => Rel.turnX (o' := .mapF kt' et' es2) hh' rfl hc
      have hr : ∀ {z : AV} {u : Value}, Rep w (XX O h' G) G z u → Rep { w with heap := w.heap.setIfInBounds b ob } (XX O ((id, some (.mapF kt' et' es2)) :: h') G) G z u :=
        fun hz => hz.ext hext (fun n _ hc => by subst hc; exact hown) hX (GStep.refl G)
      have hob2 : ObjRep { w with heap := w.heap.setIfInBounds b ob } (XX O ((id, some (.mapF kt' et' es2)) :: h') G) G id (.mapF kt' et' es2) := by
        have hl2 : es2.length = es.length + 1 := by rw [← hes]; simp
        refine ⟨b, ents.push { key := k, val := v, born := es.length }, e1, by rw [hs.1, ← hob, hl2], by simp [e3, hl2], fun n k' c' e h1 h2 => ?_, fun n e h1 => ?_⟩
        · rw [← hes] at h1
          rcases Nat.lt_trichotomy n es.length with hlt | he | hgt
          · rw [List.getElem?_append_left hlt] at h1
            rw [Array.getElem?_push_lt (by omega)] at h2
            have := e4 n k' c' e h1 (by rw [← h2, Array.getElem?_eq_getElem])
            exact ⟨this.1, hr this.2.1, this.2.2⟩
          · subst he
            rw [List.getElem?_append_right (Nat.le_refl _)] at h1
            simp only [Nat.sub_self, List.getElem?_cons_zero, Option.some.injEq, Prod.mk.injEq] at h1
            obtain ⟨rfl, rfl⟩ := h1
            rw [← e3, Array.getElem?_push_size] at h2
            cases h2
            exact ⟨rfl, .d _ _ (.sc _ ‹_›), rfl⟩
          · rw [List.getElem?_eq_none (by simp; omega)] at h1; cases h1
        · rcases Nat.lt_trichotomy n ents.size with hlt | he | hgt
          · rw [Array.getElem?_push_lt hlt] at h1
            exact e5 n e (by rw [← h1, Array.getElem?_eq_getElem])
          · subst he
            rw [Array.getElem?_push_size] at h1
            cases h1
            exact e3.symm
          · rw [Array.getElem?_eq_none (by simp; omega)] at h1; cases h1
      have r1 := r.turn (o' := .mapF kt' et' es2) hh' hext (fun n _ hc => ⟨id, List.mem_cons_self, by subst hc; rw [e1]; rfl⟩) (GStep.refl G) (fun _ _ => ⟨rfl, rfl⟩) (fun _ => rfl) rfl (fun _ h _ => h) hob2 (fun _ h => .inr h) (by simp [names])
      refine wp_value hrun (hKK _ _ G (r1.put hd (.tup _ _ rfl (fun n y u hy hu => ?_))))
      match n, hy, hu with
      | 0, hy, hu => simp at hy hu; subst hy; subst hu; exact .d _ _ (.sc _ ‹_›)
      | 1, hy, hu => simp at hy hu; subst hy; subst hu; exact .d _ _ (.sc _ rfl)
      | n + 2, hy, _ => simp at hy
theorem LStep_entryStore {y : Operand} {j kt' et' : Nat} {c0 : AV} (ho : o.op = .entryStore t x i y) (hd : o.dst = none) (hx : evalA env x = .mp id) (hi : evalA env i = .d (.sc (.int .i64 (j : Nat)))) (hy : evalA env y = c)
    (hh : hget h id = some (.mapF kt' et' es)) (hn : noid c = true) (hj : es[j]? = some (k, c0)) : LStep P O o env h [id] [] (.tup []) [(id, some (.mapF kt' et' (es.set j (k, c))))] := by
  intro env' h' he hTs _ a w G r K Q hKK
  have h1 := evalA_rep r.env x
  have h2 := evalA_rep r.env i
  have h3 := evalA_rep r.env y
  rw [he x (by simp [ho, Op.operands]), hx] at h1
  rw [he i (by simp [ho, Op.operands]), hi] at h2
  replace h2 := h2.sc_inv
  rw [he y (by simp [ho, Op.operands]), hy] at h3
  have hh' := (hTs id (by simp)).trans hh
  obtain ⟨b, ents, e1, e2, e3, e4, e5⟩ := r.obj id _ hh'
  have hlt : j < es.length := (List.getElem?_eq_some_iff.1 hj).1
  have hlt' : j < ents.size := by omega
  have hidx : ents.findIdx? (fun e => ((e.born : Nat) : Int) == ((j : Nat) : Int)) = some j := by
    rw [Array.findIdx?_eq_some_iff_getElem]
    refine ⟨hlt', ?_, fun n hn => ?_⟩
    · have := e5 j ents[j] (Array.getElem?_eq_getElem hlt')
      simp [this]
    · have := e5 n ents[n] (Array.getElem?_eq_getElem (by omega))
      simp [this]
      omega
  generalize hv : a.eval x = xv at h1
  cases h1 with
  | mp _ b' hb' =>
    obtain rfl : b = b' := by rw [e1] at hb'; cases hb'; rfl
    generalize hob : Obj.map (ents.modify j fun e => { e with val := a.eval y }) es.length = ob
    have hrun : (execOp a.eval o).run P w = .ok .skip { w with heap := w.heap.setIfInBounds b ob } := by
      rw [← hob]
      simp [execOp, ho, hv, h2, Instr.entryStore, Go.MapKept.run_getObj_map e2, asInt, asIntOf, hidx, run_setObj_map _ e2, Result.andThen]
    have hs := heap_set (o' := ob) e2
    have hext : Ext (fun n => n = b) w { w with heap := w.heap.setIfInBounds b ob } := ⟨rfl, rfl, rfl, by simp, fun n _ hne => hs.2 n hne, Nat.le_refl _⟩
    generalize hes : es.set j (k, c) = es2 at hKK
    have hown : XX O h' G b := .inr ⟨id, _, hh', id, List.mem_cons_self, by rw [e1]; rfl⟩
    have hX : ∀ n, n < w.heap.size → XX O ((id, some (.mapF kt' et' es2)) :: h') G n → XX O h' G n := fun n _ hc => Rel.turnX (o' := .mapF kt' et' es2) hh' rfl hc
    have hr : ∀ {z : AV} {u : Value}, Rep w (XX O h' G) G z u → Rep { w with heap := w.heap.setIfInBounds b ob } (XX O ((id, some (.mapF kt' et' es2)) :: h') G) G z u :=
      fun hz => hz.ext hext (fun n _ hc => by subst hc; exact hown) hX (GStep.refl G)
    have hget : ∀ (n : Nat) (e : MapEntry), (ents.modify j fun e => { e with val := a.eval y })[n]? = some e → ∃ e0, ents[n]? = some e0 ∧ e = if j = n then { e0 with val := a.eval y } else e0 := by
      intro n e hn
      rw [Array.getElem?_modify] at hn
      by_cases hj : j = n
      · rw [if_pos hj, Option.map_eq_some_iff] at hn
        obtain ⟨e0, h1, h2⟩ := hn
        exact ⟨e0, h1, by rw [if_pos hj]; exact h2.symm⟩
      · rw [if_neg hj] at hn
        exact ⟨e, hn, by rw [if_neg hj]⟩
    have hl2 : es2.length = es.length := by rw [← hes]; simp
    refine wp_skipped hrun (hKK undef _ G ?_)
    rw [hd]
    refine r.turn hh' hext (fun n _ hc => ⟨id, List.mem_cons_self, by subst hc; rw [e1]; rfl⟩) (GStep.refl G) (fun _ _ => ⟨rfl, rfl⟩) (fun _ => rfl) rfl (fun _ h _ => h) ?_ (fun _ h => .inr h) (by simp [names])
    refine ⟨b, ents.modify j fun e => { e with val := a.eval y }, e1, by rw [hs.1, ← hob, hl2], by simp [e3, hl2], fun n k' c' e h1 h2 => ?_, fun n e h1 => ?_⟩
    · obtain ⟨e0, h4, h5⟩ := hget n e h2
      rw [← hes] at h1
      by_cases hjn : j = n
      · subst hjn
        rw [if_pos rfl] at h5
        rw [List.getElem?_set_self hlt] at h1
        cases h1
        rw [h5]
        exact ⟨(e4 j k c0 e0 hj h4).1, hr h3, hn⟩
      · rw [if_neg hjn] at h5
        rw [List.getElem?_set_ne hjn] at h1
        subst h5
        have := e4 n k' c' e h1 h4
        exact ⟨this.1, hr this.2.1, this.2.2⟩
    · obtain ⟨e0, h4, h5⟩ := hget n e h1
      have := e5 n e0 h4
      rw [h5]
      split <;> exact this
end
end Go.SL
