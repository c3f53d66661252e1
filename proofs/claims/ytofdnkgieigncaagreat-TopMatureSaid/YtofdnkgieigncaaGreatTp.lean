/- The layer 'SL': an entry that is still to come in a loop over a map is deleted. -/
import Derived.Test.YtofdnkgieigncaaGreatSm
namespace Go.SL
open Go.RowKit Go.MapKept

section
variable {P : Program} {O : Org} {T : Tab P} {Q : Exit → Env → Hp → Prop} {env : Env} {h : Hp} {all rest : List Oper} {o : Oper} {rs : List Rc}
variable {t kt et m id : Nat} {x i : Operand} {es : List (Value × AV)} {it : Option (Nat × List Value × Option Value)} {dk : KK} {k : Value} {c : AV}
/-- what is deleted may still be to come: then it does not come any more -/
theorem LStep_deleteT {y : Operand} {kt' et' i0 : Nat} {todo todo' : List Value} {cur : Option Value} (ho : o.op = .call { callee := .builtin .delete, args := #[x, y], argTypes := #[t, kt] }) (hd : o.dst = none) (hT : T.desc t = some (.map kt et)) (hK : T.keyD kt = some dk) (hx : evalA env x = .mp m) (hi : keyV (evalA env y) = some k) (hk : keyB dk k = true)
    (hh : hget h m = some (.map kt' et' es (some (i0, todo, cur)))) (hb : ∀ p ∈ es, keyB dk p.1 = true) (hkn : (es.map (·.1)).Nodup) (hin : (mat k es 0).isSome = true) (hit : ∀ k', k' ∈ todo' ↔ k' ∈ todo ∧ k' ≠ k) : LStep P O o env h [m] [] (.tup []) [(m, some (.map kt' et' (mdel k es) (some (i0, todo', none))))] := by
  intro env' h' he hTs _ a w G r K Q hKK
  have h1 := evalA_rep r.env x
  have h2 := evalA_rep r.env y
  rw [he x (by simp [ho, Op.operands, Call.operands]), hx] at h1
  rw [he y (by simp [ho, Op.operands, Call.operands])] at h2
  replace h2 := keyV_rep hi h2
  have hh' := (hTs m (by simp)).trans hh
  obtain ⟨b, ents, clock, e1, e2, q, f1, f2⟩ := map_at r hh' hK hk hb
  obtain ⟨b0, ents0, clock0, k1, k2, k3, k4, k5, k6, k7⟩ := r.obj m _ hh'
  obtain rfl : b = b0 := by rw [e1] at k1; cases k1; rfl
  rw [e2] at k2
  cases k2
  generalize hv : a.eval x = xv at h1
  cases h1 with
  | mp _ b' hb' =>
    obtain rfl : b = b' := by rw [e1] at hb'; cases hb'; rfl
    generalize hob : (match q with | some (i, _) => Obj.map (ents.eraseIdxIfInBounds i) clock | none => Obj.map ents clock) = ob
    have hs := heap_set (o' := ob) e2
    have hrun : (execOp a.eval o).run P w = .ok (.value (.tuple #[])) { w with heap := w.heap.setIfInBounds b ob } := by
      have hfin : (Builtin.delete_ #[t, kt] o.type #[.map (some b), k]).run P w = .ok (.tuple #[]) { w with heap := w.heap.setIfInBounds b ob } := by
        cases q with
        | none =>
          subst hob
          simp [Builtin.delete_, run_underlying (T.desc_ok hT), Go.MapKept.run_getObj_map e2, chk_run hK hk, f1, run_setObj_map _ e2, Result.andThen]
        | some p =>
          obtain ⟨j, c0⟩ := p
          subst hob
          simp [Builtin.delete_, run_underlying (T.desc_ok hT), Go.MapKept.run_getObj_map e2, chk_run hK hk, f1, run_setObj_map _ e2, Result.andThen]
      simp [execOp, ho, resolve, invoke, builtin, hv, h2, hfin]
    have hext : Ext (fun n => n = b) w { w with heap := w.heap.setIfInBounds b ob } := ⟨rfl, rfl, rfl, by simp, fun n _ hne => hs.2 n hne, Nat.le_refl _⟩
    have hown : XX O h' G b := .inr ⟨m, _, hh', m, List.mem_cons_self, by rw [e1]; rfl⟩
    have hX : ∀ n, n < w.heap.size → XX O ((m, some (.map kt' et' (mdel k es) (some (i0, todo', none)))) :: h') G n → XX O h' G n := fun n _ hc => Rel.turnX (o' := .map kt' et' (mdel k es) (some (i0, todo', none))) hh' rfl hc
    have hr : ∀ {z : AV} {u : Value}, Rep w (XX O h' G) G z u → Rep { w with heap := w.heap.setIfInBounds b ob } (XX O ((m, some (.map kt' et' (mdel k es) (some (i0, todo', none)))) :: h') G) G z u :=
      fun hz => hz.ext hext (fun n _ hc => by subst hc; exact hown) hX (GStep.refl G)
    have hnn : m ∉ names (.map kt' et' es (some (i0, todo, cur))) := by
      obtain ⟨ib, _, g1, _⟩ := k7
      intro hm
      have : m = i0 := by simpa [names] using hm
      subst this
      rw [e1] at g1
      cases g1
    refine wp_value hrun (hKK (.tuple #[]) _ G ?_)
    rw [hd]
    refine r.turn hh' hext (fun n _ hc => ⟨m, List.mem_cons_self, by subst hc; rw [e1]; rfl⟩) (GStep.refl G) (fun _ _ => ⟨rfl, rfl⟩) (fun _ => rfl) rfl (fun _ h _ => h) ?_ (fun _ h => .inr h) hnn
    -- the entries that stay
    have main : ∃ (ents' : Array MapEntry) (f : Nat → Nat), ob = .map ents' clock ∧ (∀ a b, f a = f b → a = b) ∧ (∀ n, ents'[n]? = ents[f n]?) ∧ (∀ n, (mdel k es)[n]? = es[f n]?) ∧ ents'.size = (mdel k es).length ∧ (∀ e ∈ ents'.toList, e ∈ ents.toList) ∧
        (∀ e ∈ ents.toList, e.key ≠ k → e ∈ ents'.toList) ∧ ∀ e ∈ ents'.toList, e.key ≠ k := by
      unfold mdel
      cases hm : mat k es 0 with
      | none =>
        rw [hm] at hin
        cases hin
      | some p =>
        obtain ⟨j, c0⟩ := p
        rw [hm] at f2
        obtain ⟨e, g1, g2, rfl, g4, _⟩ := f2
        have hj : j < ents.size := (Array.getElem?_eq_some_iff.1 g1).1
        have htl : (ents.eraseIdxIfInBounds j).toList = ents.toList.eraseIdx j := by
          unfold Array.eraseIdxIfInBounds
          rw [dif_pos hj]
          simp
        refine ⟨_, skipAt j, hob.symm, fun _ _ h => skipAt_inj h, fun n => ?_, fun n => erase_at es j n, ?_, fun e' h => ?_, fun e' h hne => ?_, fun e' h he' => ?_⟩
        · rw [← Array.getElem?_toList, htl, erase_at, Array.getElem?_toList]
        · rw [← Array.length_toList, htl, List.length_eraseIdx, List.length_eraseIdx, Array.length_toList, k3]
        · rw [htl] at h; exact List.mem_of_mem_eraseIdx h
        · rw [htl, List.mem_eraseIdx_iff_getElem?]
          obtain ⟨n, hn⟩ := List.getElem?_of_mem h
          refine ⟨n, fun e0 => ?_, hn⟩
          subst e0
          rw [Array.getElem?_toList, g1] at hn
          cases hn
          exact hne g4
        · rw [htl, List.mem_eraseIdx_iff_getElem?] at h
          obtain ⟨n, hn, hn2⟩ := h
          rw [Array.getElem?_toList] at hn2
          exact hn (key_inj k3 hkn (fun i k' c' e'' a1 a2 => (k4 i k' c' e'' a1 a2).1) hn2 g1 (he'.trans g4.symm))
    obtain ⟨ents', f, hob', hf, m1, m2, m3, m4, m5, m6⟩ := main
    subst hob'
    refine ⟨b, ents', clock, e1, hs.1, m3, fun n k' c' e' g1 g2 => ?_, fun n j e' e'' g1 g2 g3 => hf _ _ (k5 _ _ e' e'' (by rw [← m1]; exact g1) (by rw [← m1]; exact g2) g3), fun e' he' => k6 e' (m4 e' he'), ?_⟩
    · have := k4 (f n) k' c' e' (by rw [← m2]; exact g1) (by rw [← m1]; exact g2)
      exact ⟨this.1, hr this.2.1, this.2.2⟩
    · obtain ⟨ib, stamps, q1, q2, q3, q4, _⟩ := k7
      have hneb : ib ≠ b := by intro e0; rw [e0, e2] at q2; cases q2
      refine ⟨ib, stamps, q1, (hs.2 ib hneb).trans q2, fun e' he' => ?_, fun k' hk' => ?_, fun k' hk' => by cases hk'⟩
      · rw [hit, q3 e' (m4 e' he')]
        exact ⟨fun q => ⟨q, m6 e' he'⟩, fun q => q.1⟩
      · obtain ⟨h1', h2'⟩ := (hit k').1 hk'
        obtain ⟨e', g1, g2⟩ := q4 k' h1'
        exact ⟨e', m5 e' g1 (fun e0 => h2' (by rw [← g2, e0])), g2⟩
end
end Go.SL
