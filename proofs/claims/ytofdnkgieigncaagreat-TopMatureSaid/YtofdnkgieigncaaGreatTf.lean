/- The layer 'SL': maps.Clone; what the library's own code does with a map that is handed to it. -/
import Derived.Test.YtofdnkgieigncaaGreatTa
import Derived.Shelf.SlMaps.Clone
import Derived.Test.YtofdnkgieigncaaGreatSh
import Derived.LaidMore
import Derived.Lay
namespace Go.SL
open Go.RowKit Go.Proofs Go.Shelf
section
variable {P : Program} {ρ : Ren}
end
end Go.SL
/- The layer 'SL': a package's variable, told whole (an object 'raw'); bits of numbers. -/
namespace Go.SL
open Go.RowKit
section
variable {P : Program} {O : Org} {T : Tab P} {env : Env} {h : Hp} {o : Oper}
def arrPl (sz : Nat) : Nat → Nat → List (Nat × Nat)
  | _, 0 => []
  | k, n + 1 => (k * sz, sz) :: arrPl sz (k + 1) n
theorem arrPl_at (sz : Nat) : ∀ (n k i : Nat) (p : Nat × Nat), (arrPl sz k n)[i]? = some p → p = ((k + i) * sz, sz)
  | 0, _, _, _, h => by simp [arrPl] at h
  | n + 1, k, 0, p, h => by
    simp only [arrPl, List.getElem?_cons_zero, Option.some.injEq] at h
    rw [← h, Nat.add_zero]
  | n + 1, k, i + 1, p, h => by
    rw [arrPl, List.getElem?_cons_succ] at h
    rw [arrPl_at sz n (k + 1) i p h, show k + 1 + i = k + (i + 1) by omega]
theorem LStep_buildArr {t e n sz : Nat} {parts : Array (Nat × Operand)} {zs out : List AV} (ho : o.op = .build t parts) (hT : T.desc t = some (.array n e)) (hS : T.size e = some sz) (hz : T.zeroC t = some zs)
    (hf : fillA (arrPl sz 0 n) zs (parts.toList.map fun p => (p.1, evalA env p.2)) = some out) (hd : dstOk o.dst O.nt = true) : LStep P O o env h [] [] (.agg out) [] := by
  refine .quiet hd (fun env' h' he _ a w G r => ?_)
  obtain ⟨z, hz1, hz2, hz3⟩ := zeroC_run hz w
  have hzr : CellsRep w (XX O h' G) G zs z.cells := by
    refine ⟨by rw [← hz2]; simp, fun i c v hi hv => ?_⟩
    rw [← hz2] at hi
    simp only [List.getElem?_map, Array.getElem?_toList, hv, Option.map_some, Option.some.injEq] at hi
    subst hi
    have := hz3 v (List.mem_of_getElem? (by rw [Array.getElem?_toList]; exact hv))
    exact ⟨.d _ _ (.sc _ this), this⟩
  obtain ⟨vout, f1, f2⟩ := fill_rep (w := w) (X := XX O h' G) (G := G) (fs := arrPl sz 0 n) (place := fun i => some (i * sz, sz)) (fun i p hp => by rw [arrPl_at sz n 0 i p hp, Nat.zero_add]) (parts.toList.map fun p => (p.1, evalA env p.2)) (parts.toList.map fun p => (p.1, a.eval p.2)) zs out z.cells hf hzr (by simp) (fun k p q hp hq => by
    simp only [List.getElem?_map, Option.map_eq_some_iff] at hp hq
    obtain ⟨p0, hp0, rfl⟩ := hp
    obtain ⟨q0, hq0, rfl⟩ := hq
    rw [hp0] at hq0
    cases hq0
    refine ⟨rfl, ?_⟩
    have := evalA_rep r.env p0.2
    rwa [he p0.2 (by
      have := List.mem_of_getElem? hp0
      simp only [ho, Op.operands]
      exact List.mem_map.2 ⟨p0, this, rfl⟩)] at this)
  refine ⟨.agg vout, ?_, .agg _ _ f2.1 (fun i c v hi hv => (f2.2 i c v hi hv).1) (fun i v hv => ?_)⟩
  · have hp2 : (parts.map fun x => (x.1, a.eval x.2)).toList = parts.toList.map fun p => (p.1, a.eval p.2) := by simp
    simp [execOp, ho, Instr.build, hz1, run_underlying (T.desc_ok hT), run_size T hS, f1]
  · have hlt : i < out.length := by rw [← f2.1]; exact (Array.getElem?_eq_some_iff.1 hv).1
    exact (f2.2 i _ v (List.getElem?_eq_getElem hlt) hv).2
theorem LStep_idxArrA {t e n sz k : Nat} {x i : Operand} {kd : IntKind} {cs out : List AV} (ho : o.op = .index t x i) (hT : T.desc t = some (.array n e)) (hg : T.agg e = some true) (hS : T.size e = some sz) (hx : evalA env x = .agg cs) (hi : evalA env i = .d (.sc (.int kd (k : Nat)))) (hd : dstOk o.dst O.nt = true) (hk : Nat.blt k n = true) (hl : Nat.ble (k * sz + sz) cs.length = true) (hc : (cs.drop (k * sz)).take sz = out) :
    LStep P O o env h [] [] (.agg out) [] := by
  have hk : k < n := by simpa [Nat.blt_eq] using hk
  have hl := Nat.le_of_ble_eq_true hl
  subst hc
  refine .quiet hd (fun env' h' he _ a w G r => ?_)
  have h1 := evalA_rep r.env x
  have h2 := evalA_rep r.env i
  rw [he x (by simp [ho, Op.operands]), hx] at h1
  rw [he i (by simp [ho, Op.operands]), hi] at h2
  have hi2 := h2.sc_inv
  generalize hv : a.eval x = v at h1
  cases h1 with
  | agg _ vs hs hc h1 =>
    refine ⟨.agg (vs.extract (k * sz) (k * sz + sz)), by simp [execOp, ho, hv, hi2, Instr.index, asIntOf, run_underlying (T.desc_ok hT), run_size T hS, part, run_isAgg T hg, hk], ?_⟩
    refine .agg _ _ (by simp; omega) (fun i c v hi hj => ?_) (fun i v hj => ?_)
    · rw [List.getElem?_take, List.getElem?_drop] at hi
      split at hi
      · rw [Array.getElem?_extract] at hj
        split at hj
        · exact hc (k * sz + i) c v hi hj
        · cases hj
      · cases hi
    · rw [Array.getElem?_extract] at hj
      split at hj
      · exact h1 _ v hj
      · cases hj
end
end Go.SL
/- The layer 'SL': maps whose entries' stamps are told (m[k] = v at a map from which may have been deleted). -/
namespace Go.SL
open Go.RowKit Go.MapKept
section
variable {P : Program} {O : Org} {T : Tab P} {Q : Exit → Env → Hp → Prop} {env : Env} {h : Hp} {all rest : List Oper} {o : Oper}
/-- no two stamps alike, all ahead of the clock -/
structure StOk (es : List (Value × AV)) (st : List Nat) (ck : Nat) : Prop where
  len : st.length = es.length
  nd : ∀ (i j s : Nat), st[i]? = some s → st[j]? = some s → i = j
  lt : ∀ s ∈ st, s < ck
/-- such a map is a map -/
theorem ObjRep.ofS {w : World} {X : Nat → Prop} {G : Ctx} {id kt et : Nat} {es : List (Value × AV)} {st : List Nat} {ck : Nat} {it : Option (Nat × List Value × Option Value)} (hst : StOk es st ck) (h : ObjRep w X G id (.mapS kt et es st ck it)) : ObjRep w X G id (.map kt et es it) := by
  obtain ⟨b, ents, h1, h2, h3, h4, h5, h7⟩ := h
  refine ⟨b, ents, ck, h1, h2, h3, h4, fun i j e e' hi hj hb => ?_, fun e he => ?_, h7⟩
  · have g1 := h5 i e hi
    have g2 := h5 j e' hj
    rw [hb] at g1
    exact hst.nd i j _ g1 g2
  · obtain ⟨i, hi, he⟩ := List.getElem_of_mem he
    have hi' : i < ents.size := by simpa using hi
    have hq : ents[i]? = some e := by rw [Array.getElem?_eq_getElem hi']; exact congrArg some (by rw [← he]; simp)
    exact hst.lt _ (List.mem_of_getElem? (h5 i e hq))
/-- .. and is taken as one -/
theorem Rel.unS {a : Act} {w : World} {G : Ctx} {m kt et : Nat} {es : List (Value × AV)} {st : List Nat} {ck : Nat} {it : Option (Nat × List Value × Option Value)} (hst : StOk es st ck) (r : Rel O env h a w G) (hh : hget h m = some (.mapS kt et es st ck it)) : Rel O env ((m, some (.map kt et es it)) :: h) a w G := by
  have conv : ∀ j o', hget ((m, some (.map kt et es it)) :: h) j = some o' → ∃ o0, hget h j = some o0 ∧ ∀ q, q ∈ j :: names o' → q ∈ j :: names o0 := by
    intro j o' h1
    rw [hget_cons] at h1
    by_cases e : m = j
    · subst e
      rw [if_pos rfl] at h1
      cases h1
      exact ⟨_, hh, fun q hq => by
        cases it <;> simpa [names, itN] using hq⟩
    · rw [if_neg e] at h1
      exact ⟨o', h1, fun q hq => hq⟩
  have hO : ∀ b, Own ((m, some (.map kt et es it)) :: h) G b → Own h G b := by
    intro b ⟨j, o', h1, q, hq, hb⟩
    obtain ⟨o0, h2, h3⟩ := conv j o' h1
    exact ⟨j, o0, h2, q, h3 q hq, hb⟩
  have hX : ∀ b, b < w.heap.size → XX O ((m, some (.map kt et es it)) :: h) G b → XX O h G b := fun b _ hx => hx.imp (fun q => q) (hO b)
  refine ⟨r.size, r.dfr, fun t => (r.env t).ext (Ext.refl (fun _ => False) w) (fun _ _ h => h.elim) hX (GStep.refl G), fun j o' h1 => ?_, fun j o1 q j' o2 q' b h1 hq h2 hq' e1 e2 => ?_, r.ext, fun b hb => r.own b (hO b hb), r.xlt, r.ids⟩
  · rw [hget_cons] at h1
    by_cases e : m = j
    · subst e
      rw [if_pos rfl] at h1
      cases h1
      exact ((r.obj m _ hh).ofS hst).mono hX
    · rw [if_neg e] at h1
      exact (r.obj j o' h1).mono hX
  · obtain ⟨p1, g1, g2⟩ := conv j o1 h1
    obtain ⟨p2, g3, g4⟩ := conv j' o2 h2
    exact r.dist j p1 q j' p2 q' b g1 (g2 q hq) g3 (g4 q' hq') e1 e2
theorem AW_unS {c : Code} (m : Nat) {kt et : Nat} {es : List (Value × AV)} {st : List Nat} {ck : Nat} {it : Option (Nat × List Value × Option Value)} (hst : StOk es st ck) (hh : hget h m = some (.mapS kt et es st ck it)) (K : AW P O c Q env ((m, some (.map kt et es it)) :: h)) : AW P O c Q env h :=
  fun a w G r => K a w G (r.unS hst hh)
theorem ObjRep.toS {w : World} {X : Nat → Prop} {G : Ctx} {id kt et : Nat} {es : List (Value × AV)} {it : Option (Nat × List Value × Option Value)} (h : ObjRep w X G id (.map kt et es it)) : ∃ st ck, StOk es st ck ∧ ObjRep w X G id (.mapS kt et es st ck it) := by
  obtain ⟨b, ents, clock, h1, h2, h3, h4, h5, h6, h7⟩ := h
  have hat : ∀ (i s : Nat), (ents.toList.map (·.born))[i]? = some s → ∃ e, ents[i]? = some e ∧ e.born = s := fun i s hs => by
    rw [List.getElem?_map, Option.map_eq_some_iff] at hs
    obtain ⟨e, g1, g2⟩ := hs
    exact ⟨e, by rw [← Array.getElem?_toList]; exact g1, g2⟩
  refine ⟨ents.toList.map (·.born), clock, ⟨by simp [h3], fun i j s g1 g2 => ?_, fun s hs => ?_⟩, b, ents, h1, h2, h3, h4, fun i e hi => ?_, h7⟩
  · obtain ⟨e, k1, k2⟩ := hat i s g1
    obtain ⟨e', k3, k4⟩ := hat j s g2
    exact h5 i j e e' k1 k3 (by rw [k2, k4])
  · obtain ⟨e, k1, rfl⟩ := List.mem_map.1 hs
    exact h6 e k1
  · rw [List.getElem?_map, Array.getElem?_toList, hi]; rfl
theorem Rel.toS {a : Act} {w : World} {G : Ctx} {m kt et : Nat} {es : List (Value × AV)} {it : Option (Nat × List Value × Option Value)} (r : Rel O env h a w G) (hh : hget h m = some (.map kt et es it)) : ∃ st ck, StOk es st ck ∧ Rel O env ((m, some (.mapS kt et es st ck it)) :: h) a w G := by
  obtain ⟨st, ck, hst, hob⟩ := (r.obj m _ hh).toS
  refine ⟨st, ck, hst, ?_⟩
  have conv : ∀ j o', hget ((m, some (.mapS kt et es st ck it)) :: h) j = some o' → ∃ o0, hget h j = some o0 ∧ ∀ q, q ∈ j :: names o' → q ∈ j :: names o0 := by
    intro j o' h1
    rw [hget_cons] at h1
    by_cases e : m = j
    · subst e
      rw [if_pos rfl] at h1
      cases h1
      exact ⟨_, hh, fun q hq => by
        cases it <;> simpa [names, itN] using hq⟩
    · rw [if_neg e] at h1
      exact ⟨o', h1, fun q hq => hq⟩
  have hO : ∀ b, Own ((m, some (.mapS kt et es st ck it)) :: h) G b → Own h G b := by
    intro b ⟨j, o', h1, q, hq, hb⟩
    obtain ⟨o0, h2, h3⟩ := conv j o' h1
    exact ⟨j, o0, h2, q, h3 q hq, hb⟩
  have hX : ∀ b, b < w.heap.size → XX O ((m, some (.mapS kt et es st ck it)) :: h) G b → XX O h G b := fun b _ hx => hx.imp (fun q => q) (hO b)
  refine ⟨r.size, r.dfr, fun t => (r.env t).ext (Ext.refl (fun _ => False) w) (fun _ _ h => h.elim) hX (GStep.refl G), fun j o' h1 => ?_, fun j o1 q j' o2 q' b h1 hq h2 hq' e1 e2 => ?_, r.ext, fun b hb => r.own b (hO b hb), r.xlt, r.ids⟩
  · rw [hget_cons] at h1
    by_cases e : m = j
    · subst e
      rw [if_pos rfl] at h1
      cases h1
      exact hob.mono hX
    · rw [if_neg e] at h1
      exact (r.obj j o' h1).mono hX
  · obtain ⟨p1, g1, g2⟩ := conv j o1 h1
    obtain ⟨p2, g3, g4⟩ := conv j' o2 h2
    exact r.dist j p1 q j' p2 q' b g1 (g2 q hq) g3 (g4 q' hq') e1 e2
theorem AW_toS {c : Code} (m : Nat) {kt et : Nat} {es : List (Value × AV)} {it : Option (Nat × List Value × Option Value)} (hh : hget h m = some (.map kt et es it)) (K : ∀ st ck, StOk es st ck → AW P O c Q env ((m, some (.mapS kt et es st ck it)) :: h)) : AW P O c Q env h :=
  fun a w G r => let ⟨st, ck, hst, r'⟩ := r.toS hh; K st ck hst a w G r'
variable {t kt et id : Nat} {x i : Operand} {es : List (Value × AV)} {dk : KK} {k : Value} {c : AV} {st : List Nat} {ck : Nat} {it : Option (Nat × List Value × Option Value)}
/-- an entry that is there: its value and its stamp -/
theorem LStep_mapEntryE {kt' et' j s0 : Nat} {it : Option (Nat × List Value × Option Value)} (ho : o.op = .mapEntry t x i) (hd : dstOk o.dst O.nt = true) (hT : T.desc t = some (.map kt et)) (hK : T.keyD kt = some dk) (hx : evalA env x = .mp id) (hi : keyV (evalA env i) = some k) (hk : keyB dk k = true)
    (hh : hget h id = some (.mapS kt' et' es st ck it)) (hb : ∀ p ∈ es, keyB dk p.1 = true) (hm : mat k es 0 = some (j, c)) (hs0 : st[j]? = some s0) :
    LStep P O o env h [id] [] (.tup [c, .d (.sc (.int .i64 (s0 : Nat)))]) [] := by
  intro env' h' he hTs _ a w G r K Q hKK
  have h1' := evalA_rep r.env x
  have h2 := evalA_rep r.env i
  rw [he x (by simp [ho, Op.operands]), hx] at h1'
  rw [he i (by simp [ho, Op.operands])] at h2
  replace h2 := keyV_rep hi h2
  have hh' := (hTs id (by simp)).trans hh
  obtain ⟨b, ents, e1, e2, e3, e4, e5, _⟩ := r.obj id _ hh'
  obtain ⟨q, f1, f2⟩ := find_mat hK hk es ents.toList hb (by simpa using e3) (fun j p e hj hj' => (e4 j p.1 p.2 e hj (by rw [← Array.getElem?_toList]; exact hj')).1)
  generalize hv : a.eval x = xv at h1'
  cases h1' with
  | mp _ b' hb' =>
    obtain rfl : b = b' := by rw [e1] at hb'; cases hb'; rfl
    unfold FoundAt at f2
    rw [hm] at f2
    obtain ⟨_, e, k', g1, g2, rfl, rfl⟩ := f2
    rw [Nat.sub_zero, Array.getElem?_toList] at g1
    rw [Nat.sub_zero] at g2
    have g4 := (e4 j k' c e g2 g1).1
    have hmod : (ents.modify j fun e => { e with key := k' }) = ents := by
      apply Array.ext_getElem?
      intro n
      rw [Array.getElem?_modify]
      by_cases hj : j = n
      · subst hj
        rw [if_pos rfl, g1, Option.map_some]
        refine congrArg some ?_
        cases e
        simp only at g4
        subst g4
        rfl
      · rw [if_neg hj]
    have hsame : w.heap.setIfInBounds b (.map ents ck) = w.heap := by
      apply Array.ext_getElem?
      intro n
      have hs := heap_set (o' := Obj.map ents ck) e2
      by_cases hn : n = b
      · rw [hn, hs.1, e2]
      · exact hs.2 n hn
    have hrun : (execOp a.eval o).run P w = .ok (.value (.tuple #[e.val, .int .i64 (s0 : Nat)])) w := by
      have := e5 j e g1
      rw [hs0] at this
      injection this with this
      simp [execOp, ho, hv, h2, Instr.mapEntry, run_underlying (T.desc_ok hT), Go.MapKept.run_getObj_map e2, chk_run hK hk, f1, g1, g4, stays_run hk, hmod, run_setObj_map _ e2, hsame, Result.andThen, goInt, this]
    refine wp_value hrun (hKK _ w G (r.put hd (.tup _ _ rfl (fun n y u hy hu => ?_))))
    match n, hy, hu with
    | 0, hy, hu => simp at hy hu; subst hy; subst hu; exact (e4 _ _ _ _ g2 g1).2.1
    | 1, hy, hu => simp at hy hu; subst hy; subst hu; exact .d _ _ (.sc _ rfl)
    | n + 2, hy, _ => simp at hy
/-- a look-up of what is there -/
theorem LStep_lookupE {kt' et' j : Nat} {it : Option (Nat × List Value × Option Value)} (ho : o.op = .lookup t x i false) (hd : dstOk o.dst O.nt = true) (hT : T.desc t = some (.map kt et)) (hK : T.keyD kt = some dk) (hx : evalA env x = .mp id) (hi : keyV (evalA env i) = some k) (hk : keyB dk k = true)
    (hh : hget h id = some (.mapS kt' et' es st ck it)) (hb : ∀ p ∈ es, keyB dk p.1 = true) (hm : mat k es 0 = some (j, c)) : LStep P O o env h [id] [] c [] := by
  intro env' h' he hTs _ a w G r K Q hKK
  have h1' := evalA_rep r.env x
  have h2 := evalA_rep r.env i
  rw [he x (by simp [ho, Op.operands]), hx] at h1'
  rw [he i (by simp [ho, Op.operands])] at h2
  replace h2 := keyV_rep hi h2
  have hh' := (hTs id (by simp)).trans hh
  obtain ⟨b, ents, e1, e2, e3, e4, e5, _⟩ := r.obj id _ hh'
  obtain ⟨q, f1, f2⟩ := find_mat hK hk es ents.toList hb (by simpa using e3) (fun j p e hj hj' => (e4 j p.1 p.2 e hj (by rw [← Array.getElem?_toList]; exact hj')).1)
  generalize hv : a.eval x = xv at h1'
  cases h1' with
  | mp _ b' hb' =>
    obtain rfl : b = b' := by rw [e1] at hb'; cases hb'; rfl
    unfold FoundAt at f2
    rw [hm] at f2
    obtain ⟨_, e, k', g1, g2, rfl, rfl⟩ := f2
    rw [Nat.sub_zero, Array.getElem?_toList] at g1
    rw [Nat.sub_zero] at g2
    refine wp_value (v := e.val) (w' := w) ?_ (hKK _ w G (r.put hd (e4 j k' c e g2 g1).2.1))
    simp [execOp, ho, hv, h2, Instr.lookup, run_underlying (T.desc_ok hT), Go.MapKept.run_getObj_map e2, chk_run hK hk, f1, Result.andThen]
theorem LStep_entryStoreS {it : Option (Nat × List Value × Option Value)} {y : Operand} {j s0 kt' et' : Nat} {c0 : AV} (ho : o.op = .entryStore t x i y) (hd : o.dst = none) (hx : evalA env x = .mp id) (hi : evalA env i = .d (.sc (.int .i64 (s0 : Nat)))) (hy : evalA env y = c)
    (hh : hget h id = some (.mapS kt' et' es st ck it)) (hn : noid c = true) (hj : es[j]? = some (k, c0)) (hs0 : st[j]? = some s0) (hsu : ∀ n, n < j → st[n]? ≠ some s0) : LStep P O o env h [id] [] (.tup []) [(id, some (.mapS kt' et' (es.set j (k, c)) st ck it))] := by
  intro env' h' he hTs _ a w G r K Q hKK
  have h1 := evalA_rep r.env x
  have h2 := evalA_rep r.env i
  have h3 := evalA_rep r.env y
  rw [he x (by simp [ho, Op.operands]), hx] at h1
  rw [he i (by simp [ho, Op.operands]), hi] at h2
  replace h2 := h2.sc_inv
  rw [he y (by simp [ho, Op.operands]), hy] at h3
  have hh' := (hTs id (by simp)).trans hh
  obtain ⟨b, ents, e1, e2, e3, e4, e5, e6⟩ := r.obj id _ hh'
  have hlt : j < es.length := (List.getElem?_eq_some_iff.1 hj).1
  have hlt' : j < ents.size := by omega
  have hidx : ents.findIdx? (fun e => ((e.born : Nat) : Int) == ((s0 : Nat) : Int)) = some j := by
    rw [Array.findIdx?_eq_some_iff_getElem]
    refine ⟨hlt', ?_, fun n hn => ?_⟩
    · have := e5 j ents[j] (Array.getElem?_eq_getElem hlt')
      rw [hs0] at this
      injection this with this
      simp [← this]
    · have := e5 n ents[n] (Array.getElem?_eq_getElem (by omega))
      have h9 := hsu n hn
      rw [this] at h9
      simp only [ne_eq, Option.some.injEq] at h9
      simp only [beq_iff_eq]
      omega
  generalize hv : a.eval x = xv at h1
  cases h1 with
  | mp _ b' hb' =>
    obtain rfl : b = b' := by rw [e1] at hb'; cases hb'; rfl
    generalize hob : Obj.map (ents.modify j fun e => { e with val := a.eval y }) ck = ob
    have hrun : (execOp a.eval o).run P w = .ok .skip { w with heap := w.heap.setIfInBounds b ob } := by
      rw [← hob]
      simp [execOp, ho, hv, h2, Instr.entryStore, Go.MapKept.run_getObj_map e2, asInt, asIntOf, hidx, run_setObj_map _ e2, Result.andThen]
    have hs := heap_set (o' := ob) e2
    have hext : Ext (fun n => n = b) w { w with heap := w.heap.setIfInBounds b ob } := ⟨rfl, rfl, rfl, by simp, fun n _ hne => hs.2 n hne, Nat.le_refl _⟩
    generalize hes : es.set j (k, c) = es2 at hKK
    have hown : XX O h' G b := .inr ⟨id, _, hh', id, List.mem_cons_self, by rw [e1]; rfl⟩
    have hX : ∀ n, n < w.heap.size → XX O ((id, some (.mapS kt' et' es2 st ck it)) :: h') G n → XX O h' G n := fun n _ hc => Rel.turnX (o' := .mapS kt' et' es2 st ck it) hh' rfl hc
    have hr : ∀ {z : AV} {u : Value}, Rep w (XX O h' G) G z u → Rep { w with heap := w.heap.setIfInBounds b ob } (XX O ((id, some (.mapS kt' et' es2 st ck it)) :: h') G) G z u :=
      fun hz => hz.ext hext (fun n _ hc => by subst hc; exact hown) hX (GStep.refl G)
    have hget : ∀ (n : Nat) (e : MapEntry), (ents.modify j fun e => { e with val := a.eval y })[n]? = some e → ∃ e0, ents[n]? = some e0 ∧ e = if j = n then { e0 with val := a.eval y } else e0 := by
      intro n e hn
      rw [Array.getElem?_modify] at hn
      by_cases hj : j = n
      · rw [if_pos hj, Option.map_eq_some_iff] at hn
        obtain ⟨e0, h1, h2⟩ := hn
        exact ⟨e0, h1, by rw [if_pos hj]; exact h2.symm⟩
      · rw [if_neg hj] at hn
        exact ⟨e, hn, by rw [if_neg hj]⟩
    have hl2 : es2.length = es.length := by rw [← hes]; simp
    have hnn : id ∉ names (.mapS kt' et' es st ck it) := by
      cases it with
      | none => intro hm; cases hm
      | some p =>
        obtain ⟨i0, todo⟩ := p
        obtain ⟨ib, _, g1, _⟩ := e6
        intro hm
        have : id = i0 := by simpa [names, itN] using hm
        subst this
        rw [e1] at g1
        cases g1
    refine wp_skipped hrun (hKK undef _ G ?_)
    rw [hd]
    refine r.turn hh' hext (fun n _ hc => ⟨id, List.mem_cons_self, by subst hc; rw [e1]; rfl⟩) (GStep.refl G) (fun _ _ => ⟨rfl, rfl⟩) (fun _ => rfl) rfl (fun _ h _ => h) ?_ (fun _ h => .inr h) hnn
    refine ⟨b, ents.modify j fun e => { e with val := a.eval y }, e1, by rw [hs.1, ← hob], by simp [e3, hl2], fun n k' c' e h1 h2 => ?_, fun n e h1 => ?_, ?_⟩
    · obtain ⟨e0, h4, h5⟩ := hget n e h2
      rw [← hes] at h1
      by_cases hjn : j = n
      · subst hjn
        rw [if_pos rfl] at h5
        rw [List.getElem?_set_self hlt] at h1
        cases h1
        rw [h5]
        exact ⟨(e4 j k c0 e0 hj h4).1, hr h3, hn⟩
      · rw [if_neg hjn] at h5
        rw [List.getElem?_set_ne hjn] at h1
        subst h5
        have := e4 n k' c' e h1 h4
        exact ⟨this.1, hr this.2.1, this.2.2⟩
    · obtain ⟨e0, h4, h5⟩ := hget n e h1
      have := e5 n e0 h4
      rw [h5]
      split <;> exact this
    · cases it with
      | none => trivial
      | some p =>
        obtain ⟨i0, todo, cur⟩ := p
        obtain ⟨ib, stamps, q1, q2, q3, q4, q5⟩ := e6
        have hneb : ib ≠ b := by intro e0; rw [e0, e2] at q2; cases q2
        have into : ∀ e ∈ (ents.modify j fun e => { e with val := a.eval y }).toList, ∃ e0 ∈ ents.toList, e.key = e0.key ∧ e.born = e0.born := fun e he => by
          obtain ⟨n, hn⟩ := List.getElem?_of_mem he
          rw [Array.getElem?_toList] at hn
          obtain ⟨e0, g1, g2⟩ := hget n e hn
          refine ⟨e0, List.mem_of_getElem? (by rw [Array.getElem?_toList]; exact g1), ?_⟩
          rw [g2]
          split <;> exact ⟨rfl, rfl⟩
        have back : ∀ e0 ∈ ents.toList, ∃ e ∈ (ents.modify j fun e => { e with val := a.eval y }).toList, e.key = e0.key ∧ e.born = e0.born := fun e0 he => by
          obtain ⟨n, hn⟩ := List.getElem?_of_mem he
          rw [Array.getElem?_toList] at hn
          have hm : (ents.modify j fun e => { e with val := a.eval y })[n]? = some (if j = n then { e0 with val := a.eval y } else e0) := by
            rw [Array.getElem?_modify, hn]
            split <;> rfl
          refine ⟨_, List.mem_of_getElem? (by rw [Array.getElem?_toList]; exact hm), ?_⟩
          split <;> exact ⟨rfl, rfl⟩
        refine ⟨ib, stamps, q1, (hs.2 ib hneb).trans q2, fun e he => ?_, fun k' hk' => ?_, fun k' hk' => ?_⟩
        · obtain ⟨e0, h1, h2, h3⟩ := into e he
          rw [h2, h3]; exact q3 e0 h1
        · obtain ⟨e0, h1, h2⟩ := q4 k' hk'
          obtain ⟨e, h3, h4, _⟩ := back e0 h1
          exact ⟨e, h3, h4.trans h2⟩
        · obtain ⟨e0, h1, h2, s, h3⟩ := q5 k' hk'
          obtain ⟨e, h4, h5, h6⟩ := back e0 h1
          exact ⟨e, h4, h5.trans h2, s, by rw [h6]; exact h3⟩
end
end Go.SL
/- The layer 'SL': objects under other names. -/
namespace Go.SL
open Go.RowKit
section
variable {P : Program} {O : Org} {Q : Exit → Env → Hp → Prop} {env : Env} {h : Hp}
variable {o : Oper} {x : Operand}
theorem run_eqNilPtr {t e : TypeId} (hT : P.underlying t = some (.pointer e)) (w : World) (a : Option Addr) : (Op.equal t (.pointer a) (.pointer none)).run P w = .ok a.isNone w := by
  unfold Op.equal
  rw [show Op.maxDepth = 9999 + 1 from rfl, Op.equalIn]
  simp only [Sem.run_bind, run_underlying hT, Result.andThen_ok]
  cases a <;> simp
theorem LStep_eqNilP {T : Tab P} {tt yt id q e : Nat} (ho : o.op = .binOp .eql tt x (.const (.pointer none)) yt) (hd : dstOk o.dst O.nt = true) (hT : T.desc tt = some (.ptr e)) (hx : evalA env x = .ptr id q) : LStep P O o env h [] [] (.d (.sc (.bool false))) [] := by
  refine .quiet hd (fun env' h' he hTs a w G r => ?_)
  have h1 := evalA_rep r.env x
  rw [he x (by simp [ho, Op.operands]), hx] at h1
  generalize hv : a.eval x = v at h1
  cases h1 with
  | ptr _ _ b hb =>
    refine ⟨.bool false, ?_, .d _ _ (.sc _ rfl)⟩
    have hy : a.eval (.const (.pointer none)) = .pointer none := rfl
    simp [execOp, ho, hv, hy, eqGuard, binOp, run_eqNilPtr (P := P) (T.desc_ok hT) w]
end
end Go.SL
/- The layer 'SL': from a law's contract to its row, where a package's variable is read (laid by the row). -/
namespace Go.SL
open Go.RowKit Go.WideShapes Go.ChangeShapes
section
variable {P : Program} (T : Tab P)
end
section
variable {H : Type} {enc : TypeId × Value → H}
end
end Go.SL
