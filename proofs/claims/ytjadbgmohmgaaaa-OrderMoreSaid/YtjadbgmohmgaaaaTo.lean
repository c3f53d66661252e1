/- The layer 'SL': own arrays whose elements may be own rows. -/
import Derived.Test.YtjadbgmohmgaaaaSy
import Derived.Test.YtjadbgmohmgaaaaSv
namespace Go.SL
open Go.RowKit
section
variable {P : Program} {O : Org} {T : Tab P} {Q : Exit → Env → Hp → Prop} {env : Env} {h : Hp} {o : Oper}

/-- An object looked at in another way. -/
theorem AW_view {c : Code} (id : Nat) {ob ob' : AObj} (hh : hget h id = some ob) (hnm : names ob' = names ob) (hv : ∀ {w : World} {X : Nat → Prop} {G : Ctx}, ObjRep w X G id ob → ObjRep w X G id ob')
    (H : AW P O c Q env ((id, some ob') :: h)) : AW P O c Q env h := by
  intro a w G r
  have hX : ∀ b, XX O ((id, some ob') :: h) G b → XX O h G b := fun b hb => Rel.turnX (o' := ob') hh hnm hb
  have hs : ∀ i o, hget ((id, some ob') :: h) i = some o → ∃ o2, hget h i = some o2 ∧ names o2 = names o := by
    intro i o ho
    rw [hget_cons] at ho
    by_cases e : id = i
    · subst e
      rw [if_pos rfl] at ho
      cases ho
      exact ⟨_, hh, hnm.symm⟩
    · rw [if_neg e] at ho
      exact ⟨o, ho, rfl⟩
  refine H a w G ⟨r.size, r.dfr, fun t => (r.env t).ext (Ext.refl (fun _ => False) w) (fun _ _ h => h.elim) (fun b _ hb => hX b hb) (GStep.refl G), fun i o ho => ?_, fun i o k i' o' k' b h1 h2 h3 h4 h5 h6 => ?_, r.ext, fun b hb => r.own b ?_, r.xlt, r.ids⟩
  · rw [hget_cons] at ho
    by_cases e : id = i
    · subst e
      rw [if_pos rfl] at ho
      cases ho
      exact (hv (r.obj id _ hh)).mono (fun b _ hb => hX b hb)
    · rw [if_neg e] at ho
      exact (r.obj i o ho).mono (fun b _ hb => hX b hb)
  · obtain ⟨o2, g1, g2⟩ := hs i o h1
    obtain ⟨o3, g3, g4⟩ := hs i' o' h3
    exact r.dist i o2 k i' o3 k' b g1 (by rw [g2]; exact h2) g3 (by rw [g4]; exact h4) h5 h6
  · obtain ⟨i, o, h1, k, hk, h2⟩ := hb
    obtain ⟨o2, g1, g2⟩ := hs i o h1
    exact ⟨i, o2, g1, k, by rw [g2]; exact hk, h2⟩
def toV (es : List (List D)) : List (List AV) := es.map fun e => e.map .d
theorem toV_len (es : List (List D)) : (toV es).length = es.length := by unfold toV; rw [List.length_map]
theorem toV_app (a b : List (List D)) : toV (a ++ b) = toV a ++ toV b := by unfold toV; rw [List.map_append]
/-- an own row of data is one of anything -/
theorem AW_toV {c : Code} (id : Nat) {e sz : Nat} {es : List (List D)} (hh : hget h id = some (.arr e sz es)) (H : AW P O c Q env ((id, some (.arrV e sz (toV es))) :: h)) : AW P O c Q env h := by
  refine AW_view (ob' := .arrV e sz (toV es)) id hh rfl (fun {w X G} hr => ?_) H
  obtain ⟨h1, h2, h3, xs, h4, h5⟩ := hr
  refine ⟨by rw [toV_len]; exact h1, h2, fun i e hi => ?_, xs, by rw [toV_len]; exact h4, fun i e hi j x hj => ?_⟩
  · unfold toV at hi
    rw [List.getElem?_map, Option.map_eq_some_iff] at hi
    obtain ⟨e', g1, rfl⟩ := hi
    rw [List.length_map]
    exact h3 i e' g1
  · unfold toV at hi
    rw [List.getElem?_map, Option.map_eq_some_iff] at hi
    obtain ⟨e', g1, rfl⟩ := hi
    rw [List.getElem?_map, Option.map_eq_some_iff] at hj
    obtain ⟨x', g2, rfl⟩ := hj
    obtain ⟨v, e1, e2⟩ := h5 i e' g1 j x' g2
    exact ⟨v, e1, .d _ _ e2, e2.one⟩
/-- and back -/
theorem AW_unV {c : Code} (id : Nat) {e sz : Nat} {es : List (List D)} (hh : hget h id = some (.arrV e sz (toV es))) (H : AW P O c Q env ((id, some (.arr e sz es)) :: h)) : AW P O c Q env h := by
  refine AW_view (ob' := .arr e sz es) id hh rfl (fun {w X G} hr => ?_) H
  obtain ⟨h1, h2, h3, xs, h4, h5⟩ := hr
  rw [toV_len] at h1 h4
  refine ⟨h1, h2, fun i e hi => ?_, xs, h4, fun i e hi j x hj => ?_⟩
  · have := h3 i (e.map .d) (by unfold toV; rw [List.getElem?_map, hi]; rfl)
    rwa [List.length_map] at this
  · obtain ⟨v, e1, e2, e3⟩ := h5 i (e.map .d) (by unfold toV; rw [List.getElem?_map, hi]; rfl) j (.d x) (by rw [List.getElem?_map, hj]; rfl)
    cases e2 with
    | d _ _ e2 => exact ⟨v, e1, e2⟩
/-- data as a slice of anything -/
theorem Rep.toSla {w : World} {X : Nat → Prop} {G : Ctx} {sz : Nat} {es : List (List D)} {v : Value} (h : Rep w X G (.d (.sl sz es)) v) : Rep w X G (.sla sz (toV es)) v := by
  cases h with
  | d _ _ h =>
    have hone := h
    cases h with
    | sl _ _ A n c b off vs hn hcap hA hl hcell hrep =>
      refine .sla sz (toV es) A n c b off vs (by rw [toV_len]; exact hn) hcap hA (fun i e hi => ?_) (fun i e hi j x hj => ?_) (fun i e hi j x hj => ?_) (fun i e hi j x hj => ?_)
      all_goals
        unfold toV at hi
        rw [List.getElem?_map, Option.map_eq_some_iff] at hi
        obtain ⟨e', g1, rfl⟩ := hi
      · rw [List.length_map]; exact hl i e' g1
      all_goals
        rw [List.getElem?_map, Option.map_eq_some_iff] at hj
        obtain ⟨x', g2, rfl⟩ := hj
      · exact hcell i e' g1 j x' g2
      · exact .d _ _ (hrep i e' g1 j x' g2)
      · exact (hrep i e' g1 j x' g2).one
/-! ### an element that is an own row -/
theorem row_blockV {w : World} {X : Nat → Prop} {G : Ctx} {id ety sz : Nat} {es : List (List AV)} (ho : ObjRep w X G id (.arrV ety sz es)) (hn : 0 < es.length) :
    ∃ g cap cur, G.m id = .slice (some ⟨g, 0, none⟩) es.length cap ∧ w.heap[g]? = some (.cells cur ety (0, 0)) ∧ es.length ≤ cap ∧ cap ≤ maxLen ∧ cur.size = cap * sz ∧
      ∀ (i : Nat) (e : List AV), es[i]? = some e → ∀ (j : Nat) (x : AV), e[j]? = some x → ∃ v, cur[i * sz + j]? = some v ∧ Rep w X G x v ∧ v.oneCell' = true := by
  obtain ⟨_, _, _, xs, hown, h5⟩ := ho
  rcases hown.2 with ⟨_, e2⟩ | ⟨g, cap, cur, e1, _, e3, e4, e5, e6, e7⟩
  · omega
  · refine ⟨g, cap, cur, e1, e3, e4, e5, e6, fun i e hi j x hj => ?_⟩
    obtain ⟨v, a1, a2⟩ := h5 i e hi j x hj
    refine ⟨v, ?_, a2⟩
    rw [← e7, List.getElem?_take] at a1
    split at a1
    · rw [Array.getElem?_toList] at a1; exact a1
    · cases a1
theorem LStep_indexOwnV {t e sz id n ety : Nat} {x i : Operand} {es : List (List AV)} {kd : IntKind} {k : Int} (ho : o.op = .indexAddr t x i) (hT : T.desc t = some (.slice e)) (hS : T.size e = some sz) (hx : evalA env x = .own id n) (hi : evalA env i = .d (.sc (.int kd k)))
    (hh : hget h id = some (.arrV ety sz es)) (hd : dstOk o.dst O.nt = true) (hn : es.length = n) (hk : 0 ≤ k) (hkn : k < (es.length : Nat)) : LStep P O o env h [id] [] (.eptr id n sz k.toNat 0) [] := by
  refine .quiet hd (fun env' h' he ht a w G r => ?_)
  have h1 := evalA_rep r.env x
  have h2 := evalA_rep r.env i
  rw [he x (by simp [ho, Op.operands]), hx] at h1
  rw [he i (by simp [ho, Op.operands]), hi] at h2
  have hob := r.obj id _ ((ht id (by simp)).trans hh)
  obtain ⟨g, cap, cur, e1, e2, _⟩ := row_blockV hob (by omega)
  generalize hv : a.eval x = v at h1
  cases h1 with
  | own _ _ _ _ hle hm hvv =>
    have e := hvv (by rw [hob.1, hn])
    subst e
    rw [e1] at hv
    refine ⟨.pointer (some ⟨g, k.toNat * sz + 0, none⟩), ?_, .eptr id n sz k.toNat 0 _ rfl hle hm (fun _ => ⟨g, cap, by rw [e1, hn], rfl⟩)⟩
    simp [execOp, ho, hv, h2.sc_inv, Instr.indexAt, asIntOf, run_underlying (T.desc_ok hT), run_size T hS, Addr.add_lit, show 0 ≤ k ∧ k < (es.length : Int) from ⟨hk, hkn⟩]
theorem LStep_loadEV {t id n sz k off ety : Nat} {x : Operand} {es : List (List AV)} {e : List AV} {c : AV} (ho : o.op = .load t x) (ha : T.agg t = some false) (hx : evalA env x = .eptr id n sz k off) (hh : hget h id = some (.arrV ety sz es)) (hd : dstOk o.dst O.nt = true)
    (hn : es.length = n) (hk : es[k]? = some e) (hc : e[off]? = some c) : LStep P O o env h [id] [] c [] := by
  refine .quiet hd (fun env' h' he ht a w G r => ?_)
  have h1 := evalA_rep r.env x
  rw [he x (by simp [ho, Op.operands]), hx] at h1
  have hob := r.obj id _ ((ht id (by simp)).trans hh)
  obtain ⟨g, cap, cur, e1, e2, _, _, _, e6⟩ := row_blockV hob (by have := (List.getElem?_eq_some_iff.1 hk).1; omega)
  generalize hv : a.eval x = v at h1
  cases h1 with
  | eptr _ _ _ _ _ _ h1 hle hm hvv =>
    obtain ⟨b, c', f1, rfl⟩ := hvv (by rw [hob.1, hn])
    obtain rfl : g = b := by rw [e1] at f1; cases f1; rfl
    obtain ⟨u, g1, g2, _⟩ := e6 k e hk off c hc
    exact ⟨u, by simp [execOp, ho, hv, Instr.loadAt, Instr.sureAddr, run_loadVar1 T ha (show w.cell? ⟨g, k * sz + off, none⟩ = some u by rw [cell_of_row w g (k * sz + off) cur ety (0, 0) e2, g1])], g2⟩
/-- an element that is an own row is written no more -/
theorem AW_freezeV {c : Code} (i0 k j : Nat) {id n e sz e0 sz0 : Nat} {cs : List (List AV)} {x : List AV} {es : List (List D)} (hh : hget h i0 = some (.arrV e0 sz0 cs)) (hk : cs[k]? = some x) (hj : x[j]? = some (.own id n)) (hd : hget h id = some (.arr e sz es)) (hn : es.length = n)
    (H : AW P O c Q env ((i0, some (.arrV e0 sz0 (cs.set k (x.set j (.d (.sl sz es)))))) :: (id, none) :: h)) : AW P O c Q env h := by
  intro a w G r
  obtain ⟨d1, d2⟩ := r.drop hd
  have hob := r.obj id _ hd
  have hne : id ≠ i0 := by intro e; subst e; rw [hd] at hh; cases hh
  have hh' : hget ((id, none) :: h) i0 = some (.arrV e0 sz0 cs) := by rw [hget_cons, if_neg hne]; exact hh
  obtain ⟨e1, e2, e3, xs, e4, e5⟩ := r.obj i0 _ hh
  generalize hcs : cs.set k (x.set j (.d (.sl sz es))) = cs' at H
  have hlen : cs'.length = cs.length := by rw [← hcs]; simp
  have hX : ∀ b, XX O ((i0, some (.arrV e0 sz0 cs')) :: (id, none) :: h) G b → XX O ((id, none) :: h) G b := fun b hb => Rel.turnX (o' := .arrV e0 sz0 cs') hh' rfl hb
  have hs : ∀ i o, hget ((i0, some (.arrV e0 sz0 cs')) :: (id, none) :: h) i = some o → ∃ o2, hget h i = some o2 ∧ names o2 = names o := by
    intro i o ho
    rw [hget_cons] at ho
    by_cases ee : i0 = i
    · subst ee
      rw [if_pos rfl] at ho
      cases ho
      exact ⟨_, hh, rfl⟩
    · rw [if_neg ee, hget_cons] at ho
      by_cases e' : id = i
      · rw [if_pos e'] at ho; cases ho
      · rw [if_neg e'] at ho
        exact ⟨o, ho, rfl⟩
  have hrep : ∀ {y : AV} {v : Value}, Rep w (XX O h G) G y v → Rep w (XX O ((i0, some (.arrV e0 sz0 cs')) :: (id, none) :: h) G) G y v := fun hy => hy.ext (Ext.refl (fun _ => False) w) (fun _ _ h => h.elim) (fun b _ hb => d1 b (hX b hb)) (GStep.refl _)
  have hget' : ∀ (i : Nat) (y : List AV), cs'[i]? = some y → ∃ y0 : List AV, cs[i]? = some y0 ∧ y.length = y0.length ∧ ∀ (q : Nat) (z : AV), y[q]? = some z → y0[q]? = some z ∨ (y0[q]? = some (AV.own id n) ∧ z = AV.d (.sl sz es)) := by
    intro i y hi
    rw [← hcs, List.getElem?_set] at hi
    split at hi
    · rename_i eki
      subst eki
      split at hi
      · cases hi
        refine ⟨x, hk, by simp, fun q z hq => ?_⟩
        rw [List.getElem?_set] at hq
        split at hq
        · rename_i ejq
          subst ejq
          split at hq
          · cases hq; exact .inr ⟨hj, rfl⟩
          · cases hq
        · exact .inl hq
      · cases hi
    · exact ⟨y, hi, rfl, fun q z hq => .inl hq⟩
  refine H a w _ ⟨r.size, r.dfr, fun t => hrep (r.env t), fun i o ho => ?_, fun i o k i' o' k' b h1 h2 h3 h4 h5 h6 => ?_, r.ext, fun b hb => r.own b ?_, r.xlt, r.ids⟩
  · rw [hget_cons] at ho
    by_cases ee : i0 = i
    · subst ee
      rw [if_pos rfl] at ho
      cases ho
      refine ⟨by rw [hlen]; exact e1, e2, fun i y hi => ?_, xs, by rw [hlen]; exact e4, fun i y hi q z hq => ?_⟩
      · obtain ⟨y0, g1, g2, _⟩ := hget' i y hi
        rw [g2]; exact e3 i y0 g1
      · obtain ⟨y0, g1, _, g3⟩ := hget' i y hi
        rcases g3 q z hq with g3 | ⟨g3, rfl⟩
        · obtain ⟨v, a1, a2, a3⟩ := e5 i y0 g1 q z g3
          exact ⟨v, a1, hrep a2, a3⟩
        · obtain ⟨v, a1, a2, a3⟩ := e5 i y0 g1 q _ g3
          refine ⟨v, a1, ?_, a3⟩
          cases a2 with
          | own _ _ _ _ _ _ hvv =>
            rw [hvv (by rw [hob.1, hn])]
            exact .d _ _ (own_sl hob (fun b _ hb => d1 b (hX b hb)) (fun b hb hx => d2 b hb (r.xNot hd hb) (hX b hx)))
    · rw [if_neg ee, hget_cons] at ho
      by_cases e' : id = i
      · rw [if_pos e'] at ho; cases ho
      · rw [if_neg e'] at ho
        exact (r.obj i o ho).mono (fun b _ hb => d1 b (hX b hb))
  · obtain ⟨o2, g1, g2⟩ := hs i o h1
    obtain ⟨o3, g3, g4⟩ := hs i' o' h3
    exact r.dist i o2 k i' o3 k' b g1 (by rw [g2]; exact h2) g3 (by rw [g4]; exact h4) h5 h6
  · obtain ⟨i, o, q1, k, hk, q2⟩ := hb
    obtain ⟨o2, g1, g2⟩ := hs i o q1
    exact ⟨i, o2, g1, k, by rw [g2]; exact hk, q2⟩
theorem LStep_litOwnN {t e sz len id : Nat} (nm : Nat) {parts : Array (Nat × Operand)} {es : List (List AV)} {ds : List (List D)} {zs : List AV} (ho : o.op = .buildSlice t len parts) (hd : o.dst = some id) (hT : T.desc t = some (.slice e)) (hS : T.size e = some sz) (hz : T.zeroC e = some zs)
    (hr : rowsOf sz env 0 parts.toList = some es) (hD : rowsD es = some ds) (hlen : parts.toList.length = len) (hn : dstOk (some id) O.nt = true) (hi : O.ids.contains nm = false) (hsmall : len * sz ≤ 16777216) (hlen2 : len ≤ maxLen) :
    LStep P O o env h [] [nm] (.own nm len) [(nm, some (.arr e sz ds))] := by
  intro env' h' he _ hf a w G r K Q hK
  have ha : ∀ x ∈ o.op.operands.toList, Rep w (XX O h' G) G (evalA env x) (a.eval x) := fun x hx => by
    have := evalA_rep r.env x
    rwa [he x hx] at this
  obtain ⟨cells, f1, f2, f3, f4, f5⟩ := run_buildSlice (P := P) ho hT hS hz hr hlen hsmall ha
  have hes := rowsD_inv hD
  subst hes
  have hid : nm ∉ O.ids := by simpa using hi
  have r' := r.newArr (id := nm) (ety := e) (sz := sz) (n := len) (cap := len) (cells := cells) (ds := ds) (hf nm (by simp)) hid (by simpa using f3) (Nat.le_refl _) hlen2 f2 (fun i e' hi => by
    have := f4 i (e'.map .d) (by simp [hi])
    simpa using this) (fun i e' hi j x hj => by
    obtain ⟨v, e1, e2, _⟩ := f5 i (e'.map .d) (by simp [hi]) j (.d x) (by simp [hj])
    cases e2 with
    | d _ _ e2 => exact ⟨v, e1, e2⟩)
  refine wp_value f1 (hK _ _ _ (r'.put (by rw [hd]; exact hn) (.own nm len _ rfl (by rw [G.set_len]; exact Nat.le_refl _) ⟨_, _, _, G.set_m _ _ _⟩ (fun _ => (G.set_m _ _ _).symm))))
theorem sla_row {w : World} {X : Nat → Prop} {G : Ctx} {sz : Nat} {es : List (List AV)} {A : Option Addr} {n c : Nat} (h : Rep w X G (.sla sz es) (.slice A n c)) (hsz : 0 < sz) :
    es.length = n ∧ ∃ vals : List Value, vals.length = n * sz ∧ (∀ u ∈ vals, u.oneCell' = true) ∧ (∀ ad, A = some ad → ∀ j u, vals[j]? = some u → w.cell? (ad.add j) = some u) ∧ (0 < n → ∃ ad, A = some ad) ∧ (∀ (i : Nat) (e : List AV), es[i]? = some e → e.length = sz) ∧
      ∀ (i : Nat) (e : List AV), es[i]? = some e → ∀ (j : Nat) (x : AV), e[j]? = some x → ∃ v, vals[i * sz + j]? = some v ∧ Rep w X G x v ∧ v.oneCell' = true := by
  cases h with
  | sla _ _ _ _ _ b off vs hn hcap hA hl hcell hrep hv1 =>
    have key : ∀ q, q < n * sz → ∃ e x, es[q / sz]? = some e ∧ e[q % sz]? = some x := by
      intro q hq
      have h1 : q / sz < es.length := by rw [hn]; exact (Nat.div_lt_iff_lt_mul hsz).2 hq
      have h2 := hl _ _ (List.getElem?_eq_getElem h1)
      have h3 : q % sz < es[q / sz].length := by rw [h2]; exact Nat.mod_lt _ hsz
      exact ⟨_, _, List.getElem?_eq_getElem h1, List.getElem?_eq_getElem h3⟩
    have hget : ∀ j u, (List.map (fun q => vs (q / sz) (q % sz)) (List.range (n * sz)))[j]? = some u → j < n * sz ∧ u = vs (j / sz) (j % sz) := by
      intro j u hj
      simp only [List.getElem?_map, Option.map_eq_some_iff] at hj
      obtain ⟨k, hk, rfl⟩ := hj
      obtain ⟨h1, h2⟩ := List.getElem?_eq_some_iff.1 hk
      simp at h1 h2
      subst h2
      exact ⟨h1, rfl⟩
    refine ⟨hn, List.map (fun q => vs (q / sz) (q % sz)) (List.range (n * sz)), by simp, fun u hu => ?_, fun ad hAd j u hj => ?_, fun h0 => ⟨_, (hA h0).1⟩, hl, fun i e hi j x hj => ?_⟩
    · obtain ⟨q, hq, rfl⟩ := List.mem_map.1 hu
      obtain ⟨e, x, h1, h2⟩ := key q (by simpa using hq)
      exact hv1 _ e h1 _ x h2
    · obtain ⟨hj1, rfl⟩ := hget j u hj
      have h0 : 0 < n := by
        rcases Nat.eq_zero_or_pos n with e | e
        · subst e; simp at hj1
        · exact e
      obtain ⟨e1, _, _⟩ := hA h0
      rw [e1] at hAd
      cases hAd
      obtain ⟨e, x, h1, h2⟩ := key j hj1
      have := hcell _ e h1 _ x h2
      rw [Addr.add_lit]
      rwa [Nat.div_add_mod' j sz] at this
    · have hil : i < n := by rw [← hn]; exact (List.getElem?_eq_some_iff.1 hi).1
      have hjl : j < sz := by rw [← hl i e hi]; exact (List.getElem?_eq_some_iff.1 hj).1
      have hlt : i * sz + j < n * sz := by
        have : (i + 1) * sz ≤ n * sz := Nat.mul_le_mul_right sz hil
        rw [Nat.add_mul, Nat.one_mul] at this
        omega
      refine ⟨vs i j, ?_, hrep i e hi j x hj, hv1 i e hi j x hj⟩
      rw [List.getElem?_map, List.getElem?_range hlt]
      simp only [Option.map_some]
      congr 2
      · rw [Nat.add_comm, Nat.add_mul_div_right _ _ hsz, Nat.div_eq_of_lt hjl, Nat.zero_add]
      · rw [Nat.add_comm, Nat.add_mul_mod_self_right, Nat.mod_eq_of_lt hjl]

/-- append to a slice that the call itself owns -/
theorem LStep_appendV {t e sz by' id n : Nat} {z : Value} {s x : Operand} {es news : List (List AV)} {xv0 : AV} (ho : o.op = .call { callee := .builtin .append, args := #[s, x], argTypes := #[t, t] }) (hT : T.desc t = some (.slice e)) (hF : T.full e = some (sz, by', z))
    (hzs : Nat.beq z.cells.size sz = true) (hsz : Nat.blt 0 sz = true) (hs : evalA env s = .own id n) (hh : hget h id = some (.arrV e sz es)) (hx : evalA env x = xv0) (hxr : ∀ {w : World} {X : Nat → Prop} {G : Ctx} {v : Value}, Rep w X G xv0 v → Rep w X G (.sla sz news) v) (hd : dstOk o.dst O.nt = true) (hi : O.ids.contains id = false)
    (hn : n = es.length) (hb : (es.length + news.length) * by' ≤ 140737488355328) (h63 : es.length + news.length ≤ maxLen) :
    LStep P O o env h [id] [] (.own id (es ++ news).length) [(id, some (.arrV e sz (es ++ news)))] := by
  intro env' h' he ht _ a w G r K Q hK
  have h1 := evalA_rep r.env s
  have h2 := evalA_rep r.env x
  rw [he s (by simp [ho, Op.operands, Call.operands]), hs] at h1
  rw [he x (by simp [ho, Op.operands, Call.operands]), hx] at h2
  have hh' := (ht id (by simp)).trans hh
  obtain ⟨g1, ⟨A0, l0, c0, g2⟩, g3, xs, hown, g5⟩ := r.obj id _ hh'
  have hid : id ∉ O.ids := by simpa using hi
  have hszp : 0 < sz := by simpa [Nat.blt_eq] using hsz
  obtain ⟨i, i1, i2, i3, i4⟩ := T.inf_ok _ (lkT_mem hF)
  have hun : P.underlying t = some (.slice e) := T.desc_ok hT
  subst hn
  generalize hsv : a.eval s = sv at h1
  generalize hxv : a.eval x = xv at h2
  cases h1 with
  | own _ _ _ hone _ _ hvv =>
    have hsv' := hvv g1
    subst hsv'
    have h2 := hxr h2
    cases h2' : h2 with
    | sla _ _ A m c b off vs hm hcap hA hl hcell hrep hv1 =>
        obtain ⟨k1, vals, k2, k3, k4, k5, k6, k7⟩ := sla_row h2 hszp
        have hX0 : ∀ o', names o' = [] → ∀ c, c < w.heap.size → XX O ((id, some o') :: h') G c → XX O h' G c := fun o' hn' c _ hc => Rel.turnX (o' := o') hh' (by rw [hn']; rfl) hc
        by_cases hm0 : m = 0
        · subst hm0
          have hnews : news = [] := List.eq_nil_of_length_eq_zero k1
          subst hnews
          have hrun : (execOp a.eval o).run P w = .ok (.value (G.m id)) w := by
            simp only [execOp, ho, resolve, invoke, builtin, Sem.run_bind, Sem.run_pure, Result.andThen_ok, List.map_toArray, List.map_cons, List.map_nil, hsv, hxv, run_append_none hun i1 hown]
          refine wp_value hrun (hK _ w G ?_)
          rw [List.append_nil]
          have r' : Rel O env' ([(id, some (.arrV e sz es))] ++ h') a w G := r.weak (fun _ => .inl rfl) (fun j oo hj => by
            rw [List.singleton_append, hget_cons] at hj
            by_cases ej : id = j
            · subst ej; rw [if_pos rfl] at hj; rw [hh', hj]
            · rw [if_neg ej] at hj; exact hj)
          exact r'.put hd (.own id _ _ hone (by rw [g1]; exact Nat.le_refl _) ⟨_, _, _, g2⟩ (fun _ => rfl))
        · obtain ⟨ad, hAd⟩ := k5 (by omega)
          subst hAd
          obtain ⟨v', w', f1, f2, f3, f4, f5⟩ := run_append_own_at (P := P) w 0 t o.type e i z sz by' hun i1 i4 i2 i3 (Nat.eq_of_beq_eq_true hzs) hszp (G.m id) es.length xs hown ad m c vals k2 (k4 ad rfl) k3 (by rw [← k1]; exact h63) (by rw [← k1]; exact hb) (Nat.zero_le _)
          have hrun : (execOp a.eval o).run P w = .ok (.value v') w' := by
            simp only [execOp, ho, resolve, invoke, builtin, Sem.run_bind, Sem.run_pure, Result.andThen_ok, List.map_toArray, List.map_cons, List.map_nil, hsv, hxv, f1]
          have hlen : (es ++ news).length = es.length + m := by rw [List.length_append, k1]
          have hv' : ∃ A' n' c', v' = .slice A' n' c' := by
            rcases f2.2 with ⟨e1, _⟩ | ⟨g, cap, cur, e1, _⟩ <;> exact ⟨_, _, _, e1⟩
          have hblk : ∀ v : Value, (∃ A' n' c', v = .slice A' n' c') → blk v = v.ownBlock := by
            rintro v ⟨A', n', c', rfl⟩
            cases A' <;> rfl
          have hgm := hblk (G.m id) ⟨_, _, _, g2⟩
          have hvm := hblk v' hv'
          have hG : GStep G (G.set id v' (es.length + m)) := fun j => by
            by_cases ej : j = id
            · subst ej
              obtain ⟨A', n', c', e1⟩ := hv'
              exact .inr ⟨_, _, _, g2, ⟨A', n', c', by rw [G.set_m, e1]⟩, by rw [G.set_len, g1]; omega⟩
            · exact .inl ⟨G.set_m_ne _ _ ej, G.set_len_ne _ _ ej⟩
          refine wp_value hrun (hK _ w' (G.set id v' (es.length + m)) ?_)
          have hext := Ext.grown f3 (run_drawn _ _ _ _ f1)
          have hCX : ∀ c, c < w.heap.size → (G.m id).ownBlock = some c → XX O h' G c := fun c _ hc => .inr ⟨id, _, hh', id, List.mem_cons_self, by rw [hgm]; exact hc⟩
          have hX : ∀ c, c < w.heap.size → XX O ((id, some (.arrV e sz (es ++ news))) :: h') (G.set id v' (es.length + m)) c → XX O h' G c := by
            intro c hc hx
            rcases hx with hx | ⟨j, oo, q1, k, q2, q3⟩
            · exact .inl hx
            · by_cases ek : k = id
              · subst ek
                rw [G.set_m, hvm] at q3
                rcases f5 with q4 | q4
                · rw [q4] at q3; exact hCX c hc q3
                · rw [q4] at q3
                  simp at q3
                  omega
              · rw [G.set_m_ne _ _ ek] at q3
                rw [hget_cons] at q1
                by_cases ej : id = j
                · subst ej
                  rw [if_pos rfl] at q1
                  cases q1
                  exact absurd (by simpa [names] using q2) ek
                · rw [if_neg ej] at q1
                  exact .inr ⟨j, oo, q1, k, q2, q3⟩
          have hrd : ∀ {y : AV} {u : Value}, Rep w (XX O h' G) G y u → Rep w' (XX O ((id, some (.arrV e sz (es ++ news))) :: h') (G.set id v' (es.length + m))) (G.set id v' (es.length + m)) y u := fun hy => hy.ext hext hCX hX hG
          have r' : Rel O env' ((id, some (.arrV e sz (es ++ news))) :: h') a w' (G.set id v' (es.length + m)) := by
            refine r.turn hh' hext (fun c _ hc => ⟨id, List.mem_cons_self, by rw [hgm]; exact hc⟩) hG (fun j ej => ⟨G.set_m_ne _ _ ej, G.set_len_ne _ _ ej⟩) (fun hc => absurd hc hid) rfl ?_ ?_ ?_ (by simp [names])
            · intro c q1 q2
              rw [G.set_m, hvm] at q1
              rcases f5 with q4 | q4
              · rw [hgm, ← q4]; exact q1
              · rw [q4] at q1
                simp at q1
                omega
            · refine ⟨by rw [G.set_len, hlen], by obtain ⟨A', n', c', e1⟩ := hv'; exact ⟨A', n', c', by rw [G.set_m, e1]⟩, fun j e' hj => ?_, xs ++ vals, by rw [G.set_m, hlen]; exact f2, fun j e' hj q y hq => ?_⟩
              · rw [List.getElem?_append] at hj
                split at hj
                · exact g3 _ e' hj
                · exact k6 _ e' hj
              · have hxl : xs.length = es.length * sz := hown.1
                rw [List.getElem?_append] at hj
                split at hj
                · rename_i hlt
                  obtain ⟨u, u1, u2, u3⟩ := g5 j e' hj q y hq
                  exact ⟨u, by rw [List.getElem?_append_left (List.getElem?_eq_some_iff.1 u1).1]; exact u1, hrd u2, u3⟩
                · rename_i hge
                  obtain ⟨u, u1, u2, u3⟩ := k7 _ e' hj q y hq
                  refine ⟨u, ?_, hrd u2, u3⟩
                  have : j * sz + q = es.length * sz + ((j - es.length) * sz + q) := by
                    have : (j - es.length + es.length) * sz = (j - es.length) * sz + es.length * sz := Nat.add_mul _ _ _
                    rw [Nat.sub_add_cancel (by omega)] at this
                    omega
                  rw [this, List.getElem?_append_right (by rw [hxl]; omega), hxl, Nat.add_sub_cancel_left]
                  exact u1
            · intro c q1
              rw [G.set_m, hvm] at q1
              rcases f5 with q4 | q4
              · right; rw [hgm, ← q4]; exact q1
              · left; rw [q4] at q1; simp at q1; omega
          refine r'.put hd (.own id _ v' ?_ (by rw [G.set_len, hlen]; exact Nat.le_refl _) ?_ (fun _ => (G.set_m _ _ _).symm))
          · obtain ⟨A', n', c', rfl⟩ := hv'; rfl
          · obtain ⟨A', n', c', e1⟩ := hv'
            exact ⟨A', n', c', by rw [G.set_m, e1]⟩
end
end Go.SL
