/- The layer 'SL': a loop over a map; what is deleted; how many entries there are. -/
import Derived.Test.YtofdnkgieigncaaGreatSl
import Derived.Maps.RangeRun
namespace Go.SL
open Go.RowKit Go.MapKept

section
variable {P : Program} {O : Org} {T : Tab P} {Q : Exit → Env → Hp → Prop} {env : Env} {h : Hp} {all rest : List Oper} {o : Oper} {rs : List Rc}
variable {t kt et m id : Nat} {x i : Operand} {es : List (Value × AV)} {it : Option (Nat × List Value × Option Value)} {dk : KK} {k : Value} {c : AV}

/-- An iterator forgotten. -/
theorem Rel.noIt {a : Act} {w : World} {G : Ctx} (r : Rel O env h a w G) (hh : hget h m = some (.map kt et es it)) : Rel O env ((m, some (.map kt et es none)) :: h) a w G := by
  have conv : ∀ j o', hget ((m, some (.map kt et es none)) :: h) j = some o' → ∃ o0, hget h j = some o0 ∧ ∀ q, q ∈ j :: names o' → q ∈ j :: names o0 := by
    intro j o' h1
    rw [hget_cons] at h1
    by_cases e : m = j
    · subst e
      rw [if_pos rfl] at h1
      cases h1
      exact ⟨_, hh, fun q hq => by
        have : q = m := by simpa [names] using hq
        subst this
        exact List.mem_cons_self⟩
    · rw [if_neg e] at h1
      exact ⟨o', h1, fun q hq => hq⟩
  have hO : ∀ b, Own ((m, some (.map kt et es none)) :: h) G b → Own h G b := by
    intro b ⟨j, o', h1, q, hq, hb⟩
    obtain ⟨o0, h2, h3⟩ := conv j o' h1
    exact ⟨j, o0, h2, q, h3 q hq, hb⟩
  have hX : ∀ b, b < w.heap.size → XX O ((m, some (.map kt et es none)) :: h) G b → XX O h G b := fun b _ hx => hx.imp (fun q => q) (hO b)
  refine ⟨r.size, r.dfr, fun t => (r.env t).ext (Ext.refl (fun _ => False) w) (fun _ _ h => h.elim) hX (GStep.refl G), fun j o' h1 => ?_, fun j o1 q j' o2 q' b h1 hq h2 hq' e1 e2 => ?_, r.ext, fun b hb => r.own b (hO b hb), r.xlt, r.ids⟩
  · rw [hget_cons] at h1
    by_cases e : m = j
    · subst e
      rw [if_pos rfl] at h1
      cases h1
      obtain ⟨b, ents, clock, e1, e2, e3, e4, e5, e6, _⟩ := (r.obj m _ hh).mono hX
      exact ⟨b, ents, clock, e1, e2, e3, e4, e5, e6, trivial⟩
    · rw [if_neg e] at h1
      exact (r.obj j o' h1).mono hX
  · obtain ⟨p1, g1, g2⟩ := conv j o1 h1
    obtain ⟨p2, g3, g4⟩ := conv j' o2 h2
    exact r.dist j p1 q j' p2 q' b g1 (g2 q hq) g3 (g4 q' hq') e1 e2

/-- A loop over a map begins. -/
theorem Rel.iter {a : Act} {w : World} {G : Ctx} (r : Rel O env h a w G) (hh : hget h m = some (.map kt et es none)) (hf : freshAt id env h) (hid : id ∉ O.ids) {b clock : Nat} {ents : Array MapEntry} (hb : G.m m = .map (some b)) (hw : w.heap[b]? = some (.map ents clock)) :
    Rel O env ((m, some (.map kt et es (some (id, es.map (·.1), none)))) :: h) a (w.alloc (.mapIter (some b) clock #[] clock)) (G.set id (.pointer (some ⟨w.heap.size, 0, none⟩)) 0) := by
  generalize hob : Obj.mapIter (some b) clock #[] clock = ob
  obtain ⟨hf1, hf2, hf3⟩ := hf
  generalize hmv : Value.pointer (some ⟨w.heap.size, 0, none⟩) = mv
  generalize hO1 : AObj.map kt et es (some (id, es.map (·.1), none)) = o1
  have hnm : names o1 = [id] := by subst hO1; rfl
  have hbm : blk mv = some w.heap.size := by subst hmv; rfl
  have he : Ext (fun _ => False) w (w.alloc ob) := Ext.alloc _ w ob
  have hne : ∀ j o', hget h j = some o' → j ≠ id := fun j o' h1 e => by subst e; rw [hf3] at h1; cases h1
  have hmid : m ≠ id := hne m _ hh
  have hmj : ∀ j o', hget h j = some o' → ∀ q ∈ j :: names o', (G.set id mv 0).m q = G.m q := fun j o' h1 q hq => by
    rcases List.mem_cons.1 hq with e | e
    · subst e; exact G.set_m_ne _ _ (hne _ o' h1)
    · exact G.set_m_ne _ _ (names_ne (hf2 j o' h1) e)
  have conv : ∀ j o', hget ((m, some o1) :: h) j = some o' → ∀ q ∈ j :: names o', (j = m ∧ q = id) ∨ ∃ o0, hget h j = some o0 ∧ q ∈ j :: names o0 ∧ (j ≠ m → o' = o0) := by
    intro j o' h1 q hq
    rw [hget_cons] at h1
    by_cases e : m = j
    · subst e
      rw [if_pos rfl] at h1
      cases h1
      rw [hnm] at hq
      rcases List.mem_cons.1 hq with e | e
      · subst e; exact .inr ⟨_, hh, List.mem_cons_self, fun e => absurd rfl e⟩
      · exact .inl ⟨rfl, by simpa using e⟩
    · rw [if_neg e] at h1
      exact .inr ⟨o', h1, hq, fun _ => rfl⟩
  have hO : ∀ c, Own ((m, some o1) :: h) (G.set id mv 0) c → c = w.heap.size ∨ Own h G c := by
    intro c ⟨j, o', h1, q, hq, hc⟩
    rcases conv j o' h1 q hq with ⟨_, e⟩ | ⟨o0, g1, g2, _⟩
    · subst e
      rw [G.set_m, hbm] at hc
      exact .inl (by simpa using hc.symm)
    · rw [hmj j o0 g1 q g2] at hc
      exact .inr ⟨j, o0, g1, q, g2, hc⟩
  have hX : ∀ c, c < w.heap.size → XX O ((m, some o1) :: h) (G.set id mv 0) c → XX O h G c := by
    intro c hc hx
    rcases hx with hx | hx
    · exact .inl hx
    · rcases hO c hx with e | e
      · omega
      · exact .inr e
  have hrep : ∀ {z : AV} {v : Value}, fresh id z = true → Rep w (XX O h G) G z v → Rep (w.alloc ob) (XX O ((m, some o1) :: h) (G.set id mv 0)) (G.set id mv 0) z v :=
    fun hx hr => (hr.setFresh mv 0 hx).ext he (fun _ _ h => h.elim) hX (GStep.refl _)
  have old : ∀ j oj q c, hget h j = some oj → q ∈ j :: names oj → blk (G.m q) = some c → c < w.heap.size := fun j oj q c hj hq e => (r.obj j oj hj).lt hq e
  refine ⟨r.size, r.dfr, fun t => hrep (hf1 t) (r.env t), fun j o' h1 => ?_, fun j p1 q j' p2 q' c h1 hq h2 hq' e1 e2 => ?_, r.ext.transNew he (fun _ _ h => h.elim), fun c hc hlt => ?_, r.xlt, fun j hj => ?_⟩
  · rw [hget_cons] at h1
    by_cases e : m = j
    · subst e
      rw [if_pos rfl] at h1
      cases h1
      subst hO1
      have h2 := freshO_rep mv 0 (hf2 m _ hh) hmid (r.obj m _ hh)
      obtain ⟨b', ents', clock', g1, g2, g3, g4, g5, g6, _⟩ := h2.ext he (X' := XX O ((m, some (.map kt et es (some (id, es.map (·.1), none)))) :: h) (G.set id mv 0)) (G' := G.set id mv 0) (fun _ _ h => h.elim) hX (fun hr => hr.ext he (fun _ _ h => h.elim) hX (GStep.refl _)) (fun _ _ => ⟨rfl, rfl⟩) (fun _ _ _ _ h => h)
      have hbb : b' = b := by rw [G.set_m_ne _ _ hmid, hb] at g1; cases g1; rfl
      subst hbb
      have hw' : (w.alloc ob).heap[b']? = some (.map ents clock) := (Below.heap_alloc w ob b' (heap_lt hw)).trans hw
      rw [hw'] at g2
      cases g2
      refine ⟨b', ents, clock, g1, hw', g3, g4, g5, g6, w.heap.size, #[], by rw [G.set_m]; exact hmv.symm, by rw [← hob]; exact (heap_alloc w _).1, fun e he => ⟨fun _ => ?_, fun _ => by simp⟩, fun k hk => ?_, fun k hk => by cases hk⟩
      · obtain ⟨n, hn⟩ := List.getElem?_of_mem he
        rw [Array.getElem?_toList] at hn
        have hlt : n < es.length := by rw [← g3]; exact (Array.getElem?_eq_some_iff.1 hn).1
        have := g4 n es[n].1 es[n].2 e (by rw [List.getElem?_eq_getElem hlt]) hn
        rw [this.1]
        exact List.mem_map.2 ⟨es[n], List.getElem_mem hlt, rfl⟩
      · obtain ⟨p, hp, rfl⟩ := List.mem_map.1 hk
        obtain ⟨n, hn⟩ := List.getElem?_of_mem hp
        have hlt : n < ents.size := by rw [g3]; exact (List.getElem?_eq_some_iff.1 hn).1
        have := g4 n p.1 p.2 ents[n] hn (by rw [Array.getElem?_eq_getElem hlt])
        exact ⟨ents[n], by simp, this.1⟩
    · rw [if_neg e] at h1
      have h2 := freshO_rep mv 0 (hf2 j o' h1) (hne j o' h1) (r.obj j o' h1)
      exact h2.ext he (fun _ _ h => h.elim) hX (fun hr => hr.ext he (fun _ _ h => h.elim) hX (GStep.refl _)) (fun _ _ => ⟨rfl, rfl⟩) (fun _ _ _ _ h => h)
  · rcases conv j p1 h1 q hq with ⟨f1, f2⟩ | ⟨o0, g1, g2, _⟩ <;> rcases conv j' p2 h2 q' hq' with ⟨f1', f2'⟩ | ⟨o0', g1', g2', _⟩
    · exact ⟨f1.trans f1'.symm, f2.trans f2'.symm⟩
    · subst f2
      rw [G.set_m, hbm] at e1
      rw [hmj j' o0' g1' q' g2'] at e2
      have := old j' o0' q' c g1' g2' e2
      cases e1
      omega
    · subst f2'
      rw [G.set_m, hbm] at e2
      rw [hmj j o0 g1 q g2] at e1
      have := old j o0 q c g1 g2 e1
      cases e2
      omega
    · rw [hmj j o0 g1 q g2] at e1
      rw [hmj j' o0' g1' q' g2'] at e2
      exact r.dist j o0 q j' o0' q' c g1 g2 g1' g2' e1 e2
  · rcases hO c hc with e | e
    · subst e
      have := r.ext.size
      omega
    · exact r.own c e hlt
  · rw [G.set_m_ne _ _ (fun e => by subst e; exact hid hj)]
    exact r.ids j hj

theorem LStep_range (ho : o.op = .range t x) (hd : o.dst = some id) (hn : dstOk (some id) O.nt = true) (hi : O.ids.contains id = false) (hT : T.desc t = some (.map kt et)) (hx : evalA env x = .mp m) (hh : hget h m = some (.map kt et es it)) :
    LStep P O o env h [m] [id] (.it id) [(m, some (.map kt et es (some (id, es.map (·.1), none)))), (m, some (.map kt et es none))] := by
  intro env' h' he hTs hf a w G r K Q hK
  have hid : id ∉ O.ids := by simpa using hi
  have h1 := evalA_rep r.env x
  rw [he x (by simp [ho, Op.operands]), hx] at h1
  have hh' := (hTs m (by simp)).trans hh
  obtain ⟨b, ents, clock, e1, e2, _⟩ := r.obj m _ hh'
  generalize hv : a.eval x = xv at h1
  cases h1 with
  | mp _ b' hb' =>
    obtain rfl : b = b' := by rw [e1] at hb'; cases hb'; rfl
    have hrun : (execOp a.eval o).run P w = .ok (.value (.pointer (some ⟨w.heap.size, 0, none⟩))) (w.alloc (.mapIter (some b) clock #[] clock)) := by
      simp [execOp, ho, hv, run_range_map w t kt et b ents clock (T.desc_ok hT) e2]
    have hf' := hf id (by simp)
    have r1 := r.noIt hh'
    have hf1 : freshAt id env' ((m, some (.map kt et es none)) :: h') := by
      refine ⟨hf'.1, fun j o' h1 => ?_, ?_⟩
      · rw [hget_cons] at h1
        by_cases e : m = j
        · rw [if_pos e] at h1; cases h1; rfl
        · rw [if_neg e] at h1; exact hf'.2.1 j o' h1
      · rw [hget_cons, if_neg (fun e => by subst e; rw [hf'.2.2] at hh'; cases hh')]
        exact hf'.2.2
    have r2 := r1.iter (by rw [hget_cons, if_pos rfl]) hf1 hid e1 e2
    exact wp_value hrun (hK _ _ _ (r2.put (by rw [hd]; exact hn) (.it id w.heap.size (G.set_m _ _ _))))

/-! ### the loop's next entry -/
theorem key_inj {ents : Array MapEntry} (hs : ents.size = es.length) (hk : (es.map (·.1)).Nodup) (h4 : ∀ (i : Nat) (k : Value) (c : AV) (e : MapEntry), es[i]? = some (k, c) → ents[i]? = some e → e.key = k)
    {n j : Nat} {e e' : MapEntry} (h1 : ents[n]? = some e) (h2 : ents[j]? = some e') (he : e.key = e'.key) : n = j := by
  have l1 : n < es.length := by rw [← hs]; exact (Array.getElem?_eq_some_iff.1 h1).1
  have l2 : j < es.length := by rw [← hs]; exact (Array.getElem?_eq_some_iff.1 h2).1
  have a1 := h4 n es[n].1 es[n].2 e (by rw [List.getElem?_eq_getElem l1]) h1
  have a2 := h4 j es[j].1 es[j].2 e' (by rw [List.getElem?_eq_getElem l2]) h2
  have hp := List.nodup_iff_pairwise_ne.1 hk
  exact (List.getElem_inj (h₀ := by simpa using l1) (h₁ := by simpa using l2) hk).1 (by simp only [List.getElem_map]; rw [← a1, ← a2, he])

theorem Es_next {todo : List Value} {cur : Option Value} {t i : Nat} (m : Nat) (ho : o.op = .next x false) (hw : wantedA all env o = some true) (hd : o.dst = some t) (hn : dstOk (some t) O.nt = true) (hx : evalA env x = .it i)
    (hh : hget h m = some (.map kt et es (some (i, todo, cur)))) (hk : (es.map (·.1)).Nodup) (ht : todo.Nodup) (K0 : todo = [] → EvS P O all rest ((t, .tup [.d (.sc (.bool false))]) :: env) h Q)
    (K1 : ∀ pre k post, todo = pre ++ k :: post → EvS P O all rest ((t, .tup [.d (.sc (.bool true)), .any, .any]) :: env) ((m, some (.map kt et es (some (i, pre ++ post, some k)))) :: h) Q) : EvS P O all (o :: rest) env h Q := by
  intro a w G r
  unfold wpList
  rw [if_pos (wantedA_ok r hw)]
  refine .inl ?_
  have h1 := evalA_rep r.env x
  rw [hx] at h1
  obtain ⟨b, ents, clock, e1, e2, e3, e4, e5, e6, ib, stamps, q1, q2, q3, q4, _⟩ := r.obj m _ hh
  generalize hv : a.eval x = xv at h1
  cases h1 with
  | it _ ib' hib =>
    obtain rfl : ib = ib' := by rw [q1] at hib; cases hib; rfl
    rcases run_next_at (P := P) w o.type ib b clock clock stamps ents clock q2 e2 e6 (Nat.le_refl _) with ⟨f1, f2⟩ | ⟨e, f1, w1, f2, f3⟩
    · have h0 : todo = [] := by
        cases todo with
        | nil => rfl
        | cons k l =>
          obtain ⟨e, g1, g2⟩ := q4 k (by simp)
          have := (q3 e g1).2 (by rw [g2]; simp)
          have hm : e ∈ leftOf ents stamps := Array.mem_filter.2 ⟨Array.mem_toList_iff.1 g1, by rw [this]; rfl⟩
          have := Array.size_pos_of_mem hm
          omega
      refine wp_value (v := .tuple #[.bool false]) (w' := w) (by simp [execOp, ho, hv, f2]) ?_
      have r1 := r.put (d := o.dst) (av := .tup [.d (.sc (.bool false))]) (v := .tuple #[.bool false]) (by rw [hd]; exact hn) (.tup _ _ rfl (fun n c v hc hv => by
        match n, hc, hv with
        | 0, hc, hv => cases hc; cases hv; exact .d _ _ (.sc _ rfl)))
      rw [hd] at r1 ⊢
      exact K0 h0 _ _ _ r1
    · obtain ⟨m1, m2⟩ := mem_left f1
      have hkt := (q3 e m1).1 m2
      obtain ⟨pre, post, rfl⟩ := List.append_of_mem hkt
      have rd : Rel O env h a w1 G := by
        rcases f2 with rfl | rfl
        · exact r
        · exact r.drew
      have hh1 : w1.heap = w.heap := by rcases f2 with rfl | rfl <;> rfl
      refine wp_value (v := .tuple #[.bool true, e.key, e.val]) (w' := ChangeMaps.setBlock w1 ib (.mapIter (some b) clock (stamps.push e.born) clock)) (by simp [execOp, ho, hv, f3]) ?_
      generalize hob : Obj.mapIter (some b) clock (stamps.push e.born) clock = ob
      have hs := heap_set (o' := ob) (hh1 ▸ q2)
      have hneb : ib ≠ b := by intro e0; rw [e0, e2] at q2; cases q2
      have hnem : m ≠ i := by intro e0; subst e0; rw [e1] at q1; cases q1
      have hext : Ext (fun n => n = ib) w1 (ChangeMaps.setBlock w1 ib ob) := ⟨rfl, rfl, rfl, by simp [ChangeMaps.setBlock], fun n _ hne => hs.2 n hne, Nat.le_refl _⟩
      have hown : XX O h G ib := .inr ⟨m, _, hh, i, by simp [names], by rw [q1]; rfl⟩
      have hX : ∀ n, n < w1.heap.size → XX O ((m, some (.map kt et es (some (i, pre ++ post, some e.key)))) :: h) G n → XX O h G n := fun n _ hc => Rel.turnX (o' := .map kt et es (some (i, pre ++ post, some e.key))) hh rfl hc
      obtain ⟨n0, hn0⟩ := List.getElem?_of_mem m1
      rw [Array.getElem?_toList] at hn0
      have hnd : ∀ k, k ∈ pre ++ post → k ≠ e.key := by
        intro k hk e0
        subst e0
        rw [List.nodup_append] at ht
        rcases List.mem_append.1 hk with hp | hp
        · exact ht.2.2 _ hp _ (by simp) rfl
        · exact (List.nodup_cons.1 ht.2.1).1 hp
      have r1 : Rel O env ((m, some (.map kt et es (some (i, pre ++ post, some e.key)))) :: h) a (ChangeMaps.setBlock w1 ib ob) G := by
        refine rd.turn hh hext (fun n _ hc => ⟨i, by simp [names], by subst hc; rw [q1]; rfl⟩) (GStep.refl G) (fun _ _ => ⟨rfl, rfl⟩) (fun _ => rfl) rfl (fun _ h _ => h) ?_ (fun _ h => .inr h) (by simpa [names] using hnem)
        refine ⟨b, ents, clock, e1, (hs.2 b (fun e0 => hneb e0.symm)).trans (hh1 ▸ e2), e3, fun n k c e' g1 g2 => ?_, e5, e6, ib, stamps.push e.born, q1, by rw [hob]; exact hs.1, fun e' he' => ?_, fun k hk => q4 k (by
          rcases List.mem_append.1 hk with hp | hp
          · exact List.mem_append_left _ hp
          · exact List.mem_append_right _ (List.mem_cons_of_mem _ hp)), fun k hk' => ?_⟩
        · obtain ⟨_, o2, o3⟩ := (rd.obj m _ hh)
          have := e4 n k c e' g1 g2
          refine ⟨this.1, Rep.ext (C := fun n => n = ib) (w := w1) ?_ hext (fun n _ hc => by subst hc; exact hown) hX (GStep.refl G), this.2.2⟩
          rcases f2 with rfl | rfl
          · exact this.2.1
          · exact this.2.1.ext (Ext.refl (fun _ => False) w).drew (fun _ _ h => h.elim) (fun _ _ h => h) (GStep.refl G)
        · obtain ⟨n1, hn1⟩ := List.getElem?_of_mem he'
          rw [Array.getElem?_toList] at hn1
          rw [contains_push, Bool.or_eq_false_iff]
          by_cases hbe : e'.born = e.born
          · have : n1 = n0 := e5 n1 n0 e' e hn1 hn0 hbe
            subst this
            rw [hn0] at hn1
            cases hn1
            exact ⟨fun h => by simp at h, fun h => absurd rfl (hnd _ h)⟩
          · have hne : e'.key ≠ e.key := by
              intro e0
              have : n1 = n0 := key_inj e3 hk (fun n k c e g1 g2 => (e4 n k c e g1 g2).1) hn1 hn0 e0
              subst this
              rw [hn0] at hn1
              cases hn1
              exact hbe rfl
            have := q3 e' he'
            constructor
            · rintro ⟨g1, _⟩
              have := this.1 g1
              rcases List.mem_append.1 this with hp | hp
              · exact List.mem_append_left _ hp
              · rcases List.mem_cons.1 hp with hp | hp
                · exact absurd hp hne
                · exact List.mem_append_right _ hp
            · intro hp
              refine ⟨this.2 ?_, by simpa using hbe⟩
              rcases List.mem_append.1 hp with hp | hp
              · exact List.mem_append_left _ hp
              · exact List.mem_append_right _ (List.mem_cons_of_mem _ hp)
        · cases hk'
          exact ⟨e, m1, rfl, stamps, rfl⟩
      have r2 := r1.put (d := o.dst) (av := .tup [.d (.sc (.bool true)), .any, .any]) (v := .tuple #[.bool true, e.key, e.val]) (by rw [hd]; exact hn) (.tup _ _ rfl (fun n c v hc hv => by
        match n, hc, hv with
        | 0, hc, hv => cases hc; cases hv; exact .d _ _ (.sc _ rfl)
        | 1, hc, hv => cases hc; exact .any _
        | 2, hc, hv => cases hc; exact .any _))
      rw [hd] at r2 ⊢
      exact K1 pre e.key post rfl _ _ _ r2

/-- The round's key and element. -/
theorem LStep_entry {todo : List Value} {i : Nat} {kav : AV} (m : Nat) (hc : (k, c) ∈ es) (ho : o.op = .entry x) (hd : dstOk o.dst O.nt = true) (hx : evalA env x = .it i) (hh : hget h m = some (.map kt et es (some (i, todo, some k)))) (hk : (es.map (·.1)).Nodup)
    (hq : ∀ w X G, Rep w X G kav k) : LStep P O o env h [m] [] (.tup [kav, c]) [] := by
  refine .quiet hd (fun env' h' he ht a w G r => ?_)
  have h1 := evalA_rep r.env x
  rw [he x (by simp [ho, Op.operands]), hx] at h1
  obtain ⟨b, ents, clock, e1, e2, e3, e4, e5, e6, ib, stamps, q1, q2, q3, q4, q5⟩ := r.obj m _ ((ht m (by simp)).trans hh)
  generalize hv : a.eval x = xv at h1
  cases h1 with
  | it _ ib' hib =>
    obtain rfl : ib = ib' := by rw [q1] at hib; cases hib; rfl
    obtain ⟨e, m1, hek, s, rfl⟩ := q5 k rfl
    obtain ⟨n0, hn0⟩ := List.getElem?_of_mem m1
    rw [Array.getElem?_toList] at hn0
    obtain ⟨n1, hn1⟩ := List.getElem?_of_mem hc
    have l1 : n1 < ents.size := by rw [e3]; exact (List.getElem?_eq_some_iff.1 hn1).1
    have hk1 := (e4 n1 k c ents[n1] hn1 (by rw [Array.getElem?_eq_getElem l1])).1
    have : n0 = n1 := key_inj e3 hk (fun n k c e g1 g2 => (e4 n k c e g1 g2).1) hn0 (by rw [Array.getElem?_eq_getElem l1]) (hek.trans hk1.symm)
    subst this
    have hfin := e4 n0 k c e hn1 hn0
    have hnd : (ents.toList.map (·.born)).Nodup := by
      rw [List.nodup_iff_pairwise_ne, List.pairwise_map, List.pairwise_iff_getElem]
      intro i j hi hj hlt e0
      have := e5 i j ents.toList[i] ents.toList[j] (by rw [← Array.getElem?_toList, List.getElem?_eq_getElem hi]) (by rw [← Array.getElem?_toList, List.getElem?_eq_getElem hj]) e0
      omega
    refine ⟨.tuple #[e.key, e.val], by simp [execOp, ho, hv, run_entry_at w ib b clock s ents clock e q2 e2 m1 hnd], .tup _ _ rfl (fun n c' v hc hv => ?_)⟩
    match n, hc, hv with
    | 0, hc, hv => cases hc; cases hv; rw [hek]; exact hq _ _ _
    | 1, hc, hv => cases hc; cases hv; exact hfin.2.1

theorem LStep_lenMap (ho : o.op = .call { callee := .builtin .len, args := #[x], argTypes := #[t] }) (hd : dstOk o.dst O.nt = true) (hT : T.desc t = some (.map kt et)) (hx : evalA env x = .mp m) {kt' et' : Nat} (hh : hget h m = some (.map kt' et' es it)) :
    LStep P O o env h [m] [] (.d (.sc (.int .i64 (es.length : Nat)))) [] := by
  refine .quiet hd (fun env' h' he ht a w G r => ⟨.int .i64 es.length, ?_, .d _ _ (.sc _ rfl)⟩)
  have h1 := evalA_rep r.env x
  rw [he x (by simp [ho, Op.operands, Call.operands]), hx] at h1
  obtain ⟨b, ents, clock, e1, e2, e3, _⟩ := r.obj m _ ((ht m (by simp)).trans hh)
  generalize hv : a.eval x = xv at h1
  cases h1 with
  | mp _ b' hb' =>
    obtain rfl : b = b' := by rw [e1] at hb'; cases hb'; rfl
    simp [execOp, ho, resolve, invoke, builtin, Builtin.len_, run_underlying (T.desc_ok hT), hv, goInt, Go.MapKept.run_getObj_map e2, Result.andThen, e3]

/-! ### delete -/
def mdel (k : Value) (es : List (Value × AV)) : List (Value × AV) := match mat k es 0 with
  | some (j, _) => es.eraseIdx j
  | none => es
def skipAt (j n : Nat) : Nat := if n < j then n else n + 1
theorem skipAt_inj {j a b : Nat} (h : skipAt j a = skipAt j b) : a = b := by
  unfold skipAt at h
  split at h <;> split at h <;> omega
theorem erase_at {α : Type} (l : List α) (j n : Nat) : (l.eraseIdx j)[n]? = l[skipAt j n]? := by
  rw [List.getElem?_eraseIdx]
  unfold skipAt
  split <;> rfl

end
end Go.SL
