/- The layer 'SL': own rows read by builtins: append(own, own...), own == nil. -/
import Derived.Test.YtofdnkgieigncaaGreatSy
import Derived.Test.YtofdnkgieigncaaGreatSv
namespace Go.SL
open Go.RowKit Go.MapKept
section
variable {P : Program} {O : Org} {T : Tab P} {Q : Exit → Env → Hp → Prop} {env : Env} {h : Hp} {all rest : List Oper} {o : Oper}
/-- an own row, as what is appended -/
theorem own_row {w : World} {X : Nat → Prop} {v : Value} {e sz : Nat} {es : List (List D)} {A : Option Addr} {m c : Nat} {xs : List Value} (hown : w.ownsRow 0 e sz v es.length xs) (hv : v = .slice A m c) (hl : ∀ (i : Nat) (x : List D), es[i]? = some x → x.length = sz)
    (hc : ∀ (i : Nat) (x : List D), es[i]? = some x → ∀ (j : Nat) (y : D), x[j]? = some y → ∃ u, xs[i * sz + j]? = some u ∧ RepD w X y u) :
    es.length = m ∧ xs.length = m * sz ∧ (∀ u ∈ xs, u.oneCell' = true) ∧ (∀ ad, A = some ad → ∀ j u, xs[j]? = some u → w.cell? (ad.add j) = some u) ∧ (0 < m → ∃ ad, A = some ad) ∧ (∀ (i : Nat) (x : List D), es[i]? = some x → x.length = sz) ∧
      ∀ (i : Nat) (x : List D), es[i]? = some x → ∀ (j : Nat) (y : D), x[j]? = some y → ∃ u, xs[i * sz + j]? = some u ∧ RepD w X y u := by
  have hm : es.length = m := by
    rcases hown.2 with ⟨e1, e2⟩ | ⟨g, cap, cur, e1, _⟩
    · rw [hv] at e1; cases e1; exact e2
    · rw [hv] at e1; cases e1; rfl
  refine ⟨hm, by rw [hown.1, hm], ?_, ?_, ?_, hl, hc⟩
  · intro u hu
    obtain ⟨q, hq, rfl⟩ := List.getElem_of_mem hu
    have hq' : q < es.length * sz := by rw [← hown.1]; exact hq
    have hsz : 0 < sz := by
      rcases Nat.eq_zero_or_pos sz with e0 | e0
      · subst e0; simp at hq'
      · exact e0
    have h1 : q / sz < es.length := (Nat.div_lt_iff_lt_mul hsz).2 hq'
    have h2 := hl _ _ (List.getElem?_eq_getElem h1)
    have h3 : q % sz < es[q / sz].length := by rw [h2]; exact Nat.mod_lt _ hsz
    obtain ⟨u, g1, g2⟩ := hc _ _ (List.getElem?_eq_getElem h1) _ _ (List.getElem?_eq_getElem h3)
    have : q / sz * sz + q % sz = q := by rw [Nat.mul_comm]; exact Nat.div_add_mod q sz
    rw [this, List.getElem?_eq_getElem hq] at g1
    cases g1
    exact g2.one
  · intro ad hA j u hj
    rcases hown.2 with ⟨e1, e2⟩ | ⟨g, cap, cur, e1, _, e2, _, _, _, e6⟩
    · rw [hv] at e1; cases e1; cases hA
    · rw [hv] at e1
      cases e1
      cases hA
      rw [← e6, List.getElem?_take] at hj
      split at hj
      · have ea : (⟨g, 0, none⟩ : Addr).add j = ⟨g, j, none⟩ := by
          unfold Addr.add
          split
          · rename_i h0; subst h0; rfl
          · simp
        rw [ea]
        simp only [World.cell?, e2]
        simpa using hj
      · cases hj
  · intro h0
    rcases hown.2 with ⟨e1, e2⟩ | ⟨g, cap, cur, e1, _⟩
    · omega
    · rw [hv] at e1; cases e1; exact ⟨_, rfl⟩
theorem LStep_appendOO {t e e' sz by' id n id2 n2 : Nat} {z : Value} {s x : Operand} {es news : List (List D)} (ho : o.op = .call { callee := .builtin .append, args := #[s, x], argTypes := #[t, t] }) (hT : T.desc t = some (.slice e)) (hF : T.full e = some (sz, by', z))
    (hzs : Nat.beq z.cells.size sz = true) (hsz : Nat.blt 0 sz = true) (hs : evalA env s = .own id n) (hh : hget h id = some (.arr e sz es)) (hx : evalA env x = .own id2 n2) (hh2 : hget h id2 = some (.arr e' sz news)) (hd : dstOk o.dst O.nt = true) (hi : O.ids.contains id = false)
    (hn : n = es.length) (hn2 : n2 = news.length) (hb : (es.length + news.length) * by' ≤ 140737488355328) (h63 : es.length + news.length ≤ maxLen) :
    LStep P O o env h [id, id2] [] (.own id (es ++ news).length) [(id, some (.arr e sz (es ++ news)))] := by

  intro env' h' he ht _ a w G r K Q hK
  have h1 := evalA_rep r.env s
  have h2 := evalA_rep r.env x
  rw [he s (by simp [ho, Op.operands, Call.operands]), hs] at h1
  rw [he x (by simp [ho, Op.operands, Call.operands]), hx] at h2
  have hh' := (ht id (by simp)).trans hh
  obtain ⟨g1, ⟨A0, l0, c0, g2⟩, g3, xs, hown, g5⟩ := r.obj id _ hh'
  have hid : id ∉ O.ids := by simpa using hi
  have hszp : 0 < sz := by simpa [Nat.blt_eq] using hsz
  obtain ⟨i, i1, i2, i3, i4⟩ := T.inf_ok _ (lkT_mem hF)
  have hun : P.underlying t = some (.slice e) := T.desc_ok hT
  subst hn
  generalize hsv : a.eval s = sv at h1
  generalize hxv : a.eval x = xv at h2
  cases h1 with
  | own _ _ _ hone _ _ hvv =>
    have hsv' := hvv g1
    subst hsv'
    cases h2 with
    | own _ _ _ hone2 _ _ hvv2 =>
      have hh2' := (ht id2 (by simp)).trans hh2
      obtain ⟨q1, ⟨A, m, c, q2⟩, q3, vals, hown2, q5⟩ := r.obj id2 _ hh2'
      subst hn2
      have hxv' := hvv2 q1
      subst hxv'
      obtain ⟨k1, k2, k3, k4, k5, k6, k7⟩ := own_row hown2 q2 q3 q5
      rw [q2] at hxv
      · skip
        have hX0 : ∀ o', names o' = [] → ∀ c, c < w.heap.size → XX O ((id, some o') :: h') G c → XX O h' G c := fun o' hn' c _ hc => Rel.turnX (o' := o') hh' (by rw [hn']; rfl) hc
        by_cases hm0 : m = 0
        · subst hm0
          have hnews : news = [] := List.eq_nil_of_length_eq_zero k1
          subst hnews
          have hrun : (execOp a.eval o).run P w = .ok (.value (G.m id)) w := by
            simp only [execOp, ho, resolve, invoke, builtin, Sem.run_bind, Sem.run_pure, Result.andThen_ok, List.map_toArray, List.map_cons, List.map_nil, hsv, hxv, run_append_none hun i1 hown]
          refine wp_value hrun (hK _ w G ?_)
          rw [List.append_nil]
          have r' : Rel O env' ([(id, some (.arr e sz es))] ++ h') a w G := r.weak (fun _ => .inl rfl) (fun j oo hj => by
            rw [List.singleton_append, hget_cons] at hj
            by_cases ej : id = j
            · subst ej; rw [if_pos rfl] at hj; rw [hh', hj]
            · rw [if_neg ej] at hj; exact hj)
          exact r'.put hd (.own id _ _ hone (by rw [g1]; exact Nat.le_refl _) ⟨_, _, _, g2⟩ (fun _ => rfl))
        · obtain ⟨ad, hAd⟩ := k5 (by omega)
          subst hAd
          obtain ⟨v', w', f1, f2, f3, f4, f5⟩ := run_append_own_at (P := P) w 0 t o.type e i z sz by' hun i1 i4 i2 i3 (Nat.eq_of_beq_eq_true hzs) hszp (G.m id) es.length xs hown ad m c vals k2 (k4 ad rfl) k3 (by rw [← k1]; exact h63) (by rw [← k1]; exact hb) (Nat.zero_le _)
          have hrun : (execOp a.eval o).run P w = .ok (.value v') w' := by
            simp only [execOp, ho, resolve, invoke, builtin, Sem.run_bind, Sem.run_pure, Result.andThen_ok, List.map_toArray, List.map_cons, List.map_nil, hsv, hxv, f1]
          have hlen : (es ++ news).length = es.length + m := by rw [List.length_append, k1]
          have hv' : ∃ A' n' c', v' = .slice A' n' c' := by
            rcases f2.2 with ⟨e1, _⟩ | ⟨g, cap, cur, e1, _⟩ <;> exact ⟨_, _, _, e1⟩
          have hblk : ∀ v : Value, (∃ A' n' c', v = .slice A' n' c') → blk v = v.ownBlock := by
            rintro v ⟨A', n', c', rfl⟩
            cases A' <;> rfl
          have hgm := hblk (G.m id) ⟨_, _, _, g2⟩
          have hvm := hblk v' hv'
          have hG : GStep G (G.set id v' (es.length + m)) := fun j => by
            by_cases ej : j = id
            · subst ej
              obtain ⟨A', n', c', e1⟩ := hv'
              exact .inr ⟨_, _, _, g2, ⟨A', n', c', by rw [G.set_m, e1]⟩, by rw [G.set_len, g1]; omega⟩
            · exact .inl ⟨G.set_m_ne _ _ ej, G.set_len_ne _ _ ej⟩
          refine wp_value hrun (hK _ w' (G.set id v' (es.length + m)) ?_)
          have hext := Ext.grown f3 (run_drawn _ _ _ _ f1)
          have hCX : ∀ c, c < w.heap.size → (G.m id).ownBlock = some c → XX O h' G c := fun c _ hc => .inr ⟨id, _, hh', id, List.mem_cons_self, by rw [hgm]; exact hc⟩
          have hX : ∀ c, c < w.heap.size → XX O ((id, some (.arr e sz (es ++ news))) :: h') (G.set id v' (es.length + m)) c → XX O h' G c := by
            intro c hc hx
            rcases hx with hx | ⟨j, oo, q1, k, q2, q3⟩
            · exact .inl hx
            · by_cases ek : k = id
              · subst ek
                rw [G.set_m, hvm] at q3
                rcases f5 with q4 | q4
                · rw [q4] at q3; exact hCX c hc q3
                · rw [q4] at q3
                  simp at q3
                  omega
              · rw [G.set_m_ne _ _ ek] at q3
                rw [hget_cons] at q1
                by_cases ej : id = j
                · subst ej
                  rw [if_pos rfl] at q1
                  cases q1
                  exact absurd (by simpa [names] using q2) ek
                · rw [if_neg ej] at q1
                  exact .inr ⟨j, oo, q1, k, q2, q3⟩
          have hrd : ∀ {y : D} {u : Value}, RepD w (XX O h' G) y u → RepD w' (XX O ((id, some (.arr e sz (es ++ news))) :: h') (G.set id v' (es.length + m))) y u := fun hy => hy.ext hext hCX hX
          have r' : Rel O env' ((id, some (.arr e sz (es ++ news))) :: h') a w' (G.set id v' (es.length + m)) := by
            refine r.turn hh' hext (fun c _ hc => ⟨id, List.mem_cons_self, by rw [hgm]; exact hc⟩) hG (fun j ej => ⟨G.set_m_ne _ _ ej, G.set_len_ne _ _ ej⟩) (fun hc => absurd hc hid) rfl ?_ ?_ ?_ (by simp [names])
            · intro c q1 q2
              rw [G.set_m, hvm] at q1
              rcases f5 with q4 | q4
              · rw [hgm, ← q4]; exact q1
              · rw [q4] at q1
                simp at q1
                omega
            · refine ⟨by rw [G.set_len, hlen], by obtain ⟨A', n', c', e1⟩ := hv'; exact ⟨A', n', c', by rw [G.set_m, e1]⟩, fun j e' hj => ?_, xs ++ vals, by rw [G.set_m, hlen]; exact f2, fun j e' hj q y hq => ?_⟩
              · rw [List.getElem?_append] at hj
                split at hj
                · exact g3 _ e' hj
                · exact k6 _ e' hj
              · have hxl : xs.length = es.length * sz := hown.1
                rw [List.getElem?_append] at hj
                split at hj
                · rename_i hlt
                  obtain ⟨u, u1, u2⟩ := g5 j e' hj q y hq
                  exact ⟨u, by rw [List.getElem?_append_left (List.getElem?_eq_some_iff.1 u1).1]; exact u1, hrd u2⟩
                · rename_i hge
                  obtain ⟨u, u1, u2⟩ := k7 _ e' hj q y hq
                  refine ⟨u, ?_, hrd u2⟩
                  have : j * sz + q = es.length * sz + ((j - es.length) * sz + q) := by
                    have : (j - es.length + es.length) * sz = (j - es.length) * sz + es.length * sz := Nat.add_mul _ _ _
                    rw [Nat.sub_add_cancel (by omega)] at this
                    omega
                  rw [this, List.getElem?_append_right (by rw [hxl]; omega), hxl, Nat.add_sub_cancel_left]
                  exact u1
            · intro c q1
              rw [G.set_m, hvm] at q1
              rcases f5 with q4 | q4
              · right; rw [hgm, ← q4]; exact q1
              · left; rw [q4] at q1; simp at q1; omega
          refine r'.put hd (.own id _ v' ?_ (by rw [G.set_len, hlen]; exact Nat.le_refl _) ?_ (fun _ => (G.set_m _ _ _).symm))
          · obtain ⟨A', n', c', rfl⟩ := hv'; rfl
          · obtain ⟨A', n', c', e1⟩ := hv'
            exact ⟨A', n', c', by rw [G.set_m, e1]⟩
/-- an own row compared with nil -/
theorem Es_eqNilOwn {t tt e yt sz id n ety : Nat} {x : Operand} {es : List (List D)} (ho : o.op = .binOp .eql tt x (.const (.slice none 0 0)) yt) (hw : wantedA all env o = some true) (hd : o.dst = some t) (hn : dstOk (some t) O.nt = true) (hT : T.desc tt = some (.slice e)) (hx : evalA env x = .own id n) (hh : hget h id = some (.arr ety sz es)) (hn2 : n = es.length)
    (K1 : es = [] → EvS P O all rest ((t, .d (.sc (.bool true))) :: env) h Q) (K0 : EvS P O all rest ((t, .d (.sc (.bool false))) :: env) h Q) : EvS P O all (o :: rest) env h Q := by
  intro a w G r
  unfold wpList
  rw [if_pos (wantedA_ok r hw)]
  refine .inl ?_
  have h1 := evalA_rep r.env x
  rw [hx] at h1
  generalize hv : a.eval x = v at h1
  obtain ⟨q1, ⟨A, m, c, q2⟩, q3, xs, hown, q5⟩ := r.obj id _ hh
  have hrun : ∀ A' n' c', v = .slice A' n' c' → (execOp a.eval o).run P w = .ok (.value (.bool A'.isNone)) w := by
    intro A' n' c' hv'
    have hy : a.eval (.const (.slice none 0 0)) = .slice none 0 0 := rfl
    simp [execOp, ho, hv, hv', hy, eqGuard, binOp, run_eqlNil (P := P) (T.desc_ok hT) w A' n' c']
  cases h1 with
  | own _ _ _ hone hle hsh hvv =>
    have hvm := hvv (by rw [q1, hn2])
    have hrun := hrun A m c (hvm.trans q2)
    refine wp_value (v := .bool A.isNone) (w' := w) hrun ?_
    cases A with
    | none =>
      have h0 : es = [] := by
        rcases hown.2 with ⟨e1, e2⟩ | ⟨g, cap, cur, e1, _⟩
        · exact List.eq_nil_of_length_eq_zero e2
        · rw [q2] at e1; cases e1
      have r1 := r.put (d := o.dst) (av := .d (.sc (.bool true))) (v := .bool true) (by rw [hd]; exact hn) (.d _ _ (.sc _ rfl))
      rw [hd] at r1 ⊢
      exact K1 h0 _ _ _ r1
    | some ad =>
      have r1 := r.put (d := o.dst) (av := .d (.sc (.bool false))) (v := .bool false) (by rw [hd]; exact hn) (.d _ _ (.sc _ rfl))
      rw [hd] at r1 ⊢
      exact K0 _ _ _ r1
/-! ### maps whose order is not told -/
theorem Rel.same1 {a : Act} {w : World} {G : Ctx} {m : Nat} {o1 o2 : AObj} (r : Rel O env h a w G) (hh : hget h m = some o1) (hn1 : names o1 = []) (hn2 : names o2 = []) (ho : ObjRep w (XX O h G) G m o2) : Rel O env ((m, some o2) :: h) a w G := by
  have conv : ∀ j o', hget ((m, some o2) :: h) j = some o' → ∃ o0, hget h j = some o0 ∧ names o' = names o0 := by
    intro j o' h1
    rw [hget_cons] at h1
    by_cases e : m = j
    · subst e
      rw [if_pos rfl] at h1
      cases h1
      exact ⟨_, hh, by rw [hn1, hn2]⟩
    · rw [if_neg e] at h1
      exact ⟨o', h1, rfl⟩
  have hO : ∀ b, Own ((m, some o2) :: h) G b → Own h G b := by
    intro b ⟨j, o', h1, q, hq, hb⟩
    obtain ⟨o0, h2, h3⟩ := conv j o' h1
    exact ⟨j, o0, h2, q, by rw [← h3]; exact hq, hb⟩
  have hX : ∀ b, b < w.heap.size → XX O ((m, some o2) :: h) G b → XX O h G b := fun b _ hx => hx.imp (fun q => q) (hO b)
  refine ⟨r.size, r.dfr, fun t => (r.env t).ext (Ext.refl (fun _ => False) w) (fun _ _ h => h.elim) hX (GStep.refl G), fun j o' h1 => ?_, fun j o1 q j' o2 q' b h1 hq h2 hq' e1 e2 => ?_, r.ext, fun b hb => r.own b (hO b hb), r.xlt, r.ids⟩
  · rw [hget_cons] at h1
    by_cases e : m = j
    · subst e
      rw [if_pos rfl] at h1
      cases h1
      exact ho.mono hX
    · rw [if_neg e] at h1
      exact (r.obj j o' h1).mono hX
  · obtain ⟨p1, g1, g2⟩ := conv j o1 h1
    obtain ⟨p2, g3, g4⟩ := conv j' o2 h2
    exact r.dist j p1 q j' p2 q' b g1 (by rw [← g2]; exact hq) g3 (by rw [← g4]; exact hq') e1 e2
end
end Go.SL
