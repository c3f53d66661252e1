/- The layer 'SL': maps.Clone; what the library's own code does with a map that is handed to it. -/
import Derived.Test.YtodgjgkoaahhmaaGreatDoorTa
import Derived.Shelf.SlMaps.Clone
import Derived.Test.YtodgjgkoaahhmaaGreatDoorSh
import Derived.LaidMore
import Derived.Lay
namespace Go.SL
open Go.RowKit Go.Proofs Go.Shelf
section
variable {P : Program} {ρ : Ren}
end
end Go.SL
/- The layer 'SL': a package's variable, told whole (an object 'raw'); bits of numbers. -/
namespace Go.SL
open Go.RowKit
section
variable {P : Program} {O : Org} {T : Tab P} {env : Env} {h : Hp} {o : Oper}
theorem LStep_indexGlob {t e n g : Nat} (id : Nat) {ob : Obj} {i : Operand} {kd : IntKind} {k : Nat} (ho : o.op = .indexAddr t (.global g) i) (hT : T.desc t = some (.array n e)) (hS : T.size e = some 1) (hi : evalA env i = .d (.sc (.int kd (k : Nat)))) (hh : hget h id = some (.raw g ob)) (hd : dstOk o.dst O.nt = true) (h1 : k < n) :
    LStep P O o env h [id] [] (.ptr id k) [] := by
  refine .quiet hd (fun env' h' he ht a w G r => ?_)
  have h2 := evalA_rep r.env i
  rw [he i (by simp [ho, Op.operands]), hi] at h2
  obtain ⟨e1, e2⟩ := r.obj id _ ((ht id (by simp)).trans hh)
  have hlt : ((k : Nat) : Int) < (n : Int) := by omega
  refine ⟨.pointer (some ⟨g, k, none⟩), ?_, .ptr id k g e1⟩
  simp [execOp, ho, h2.sc_inv, Instr.indexAt, Instr.sureAddr, asIntOf, run_underlying (T.desc_ok hT), run_size T hS, Addr.add_lit, show a.eval (.global g) = .pointer (some ⟨g, 0, none⟩) from rfl, h1]
theorem LStep_loadRaw {t id off b ty : Nat} {x : Operand} {arr : Array Value} {v : Value} (ho : o.op = .load t x) (ha : T.agg t = some false) (hx : evalA env x = .ptr id off) (hh : hget h id = some (.raw b (.cells arr ty (0, 0)))) (hd : dstOk o.dst O.nt = true) (hv : arr[off]? = some v) (h1 : v.oneCell' = true) :
    LStep P O o env h [id] [] (.d (.sc v)) [] := by
  refine .quiet hd (fun env' h' he ht a w G r => ?_)
  have h2 := evalA_rep r.env x
  rw [he x (by simp [ho, Op.operands]), hx] at h2
  obtain ⟨e1, e2⟩ := r.obj id _ ((ht id (by simp)).trans hh)
  generalize hq : a.eval x = u at h2
  cases h2 with
  | ptr _ _ b' hb =>
    obtain rfl : b = b' := by rw [e1] at hb; injection hb with hb; injection hb with hb; injection hb
    exact ⟨v, by simp [execOp, ho, hq, Instr.loadAt, Instr.sureAddr, run_loadVar1 T ha (show w.cell? ⟨b, off, none⟩ = some v by rw [cell_of_row w b off arr ty (0, 0) e2, hv])], .d _ _ (.sc _ h1)⟩
theorem LStep_shr {t yt : Nat} {x y : Operand} {k yk : IntKind} {m n q : Int} (ho : o.op = .binOp .shr t x y yt) (hx : evalA env x = .d (.sc (.int k m))) (hy : evalA env y = .d (.sc (.int yk n))) (hn : 0 ≤ n) (hq : m.fdiv (2 ^ (min n.toNat k.bits)) = q) (hd : dstOk o.dst O.nt = true) :
    LStep P O o env h [] [] (.d (.sc (.int k q))) [] := by
  subst hq
  refine .quiet hd (fun env' h' he _ a w G r => ?_)
  have h1 := evalA_rep r.env x
  have h2 := evalA_rep r.env y
  rw [he x (by simp [ho, Op.operands]), hx] at h1
  rw [he y (by simp [ho, Op.operands]), hy] at h2
  have hn' : ¬ n < 0 := by omega
  exact ⟨.int k (m.fdiv (2 ^ (min n.toNat k.bits))), by simp [execOp, ho, h1.sc_inv, h2.sc_inv, eqGuard, binOp, Op.shift, hn'], .d _ _ (.sc _ rfl)⟩
def andI (k : IntKind) (m n : Int) : Int := k.wrap (BitVec.ofInt k.bits m &&& BitVec.ofInt k.bits n).toNat
theorem LStep_and {t yt : Nat} {x y : Operand} {k : IntKind} {m n q : Int} (ho : o.op = .binOp .and t x y yt) (hx : evalA env x = .d (.sc (.int k m))) (hy : evalA env y = .d (.sc (.int k n))) (hq : andI k m n = q) (hd : dstOk o.dst O.nt = true) :
    LStep P O o env h [] [] (.d (.sc (.int k q))) [] := by
  subst hq
  refine .quiet hd (fun env' h' he _ a w G r => ?_)
  have h1 := evalA_rep r.env x
  have h2 := evalA_rep r.env y
  rw [he x (by simp [ho, Op.operands]), hx] at h1
  rw [he y (by simp [ho, Op.operands]), hy] at h2
  exact ⟨.int k (andI k m n), by simp [execOp, ho, h1.sc_inv, h2.sc_inv, eqGuard, binOp, Op.intBits, andI], .d _ _ (.sc _ rfl)⟩
theorem LStep_idxArr {t e n k : Nat} {x i : Operand} {kd : IntKind} {cs : List AV} {c : AV} (ho : o.op = .index t x i) (hT : T.desc t = some (.array n e)) (hg : T.agg e = some false) (hS : T.size e = some 1) (hx : evalA env x = .agg cs) (hi : evalA env i = .d (.sc (.int kd (k : Nat)))) (hd : dstOk o.dst O.nt = true) (hk : Nat.blt k n = true) (hc : cs[k]? = some c) :
    LStep P O o env h [] [] c [] := by
  have hk : k < n := by simpa [Nat.blt_eq] using hk
  refine .quiet hd (fun env' h' he _ a w G r => ?_)
  have h1 := evalA_rep r.env x
  have h2 := evalA_rep r.env i
  rw [he x (by simp [ho, Op.operands]), hx] at h1
  rw [he i (by simp [ho, Op.operands]), hi] at h2
  have hi2 := h2.sc_inv
  generalize hv : a.eval x = v at h1
  cases h1 with
  | agg _ vs hs hcc h1 =>
    have hlt : k < vs.size := by rw [hs]; exact (List.getElem?_eq_some_iff.1 hc).1
    have hq := Array.getElem?_eq_getElem hlt
    refine ⟨vs[k], ?_, hcc k c _ hc hq⟩
    simp [execOp, ho, hv, hi2, Instr.index, asIntOf, run_underlying (T.desc_ok hT), run_size T hS, part, run_isAgg T hg, hk, hq]
def arrPl (sz : Nat) : Nat → Nat → List (Nat × Nat)
  | _, 0 => []
  | k, n + 1 => (k * sz, sz) :: arrPl sz (k + 1) n
theorem arrPl_at (sz : Nat) : ∀ (n k i : Nat) (p : Nat × Nat), (arrPl sz k n)[i]? = some p → p = ((k + i) * sz, sz)
  | 0, _, _, _, h => by simp [arrPl] at h
  | n + 1, k, 0, p, h => by
    simp only [arrPl, List.getElem?_cons_zero, Option.some.injEq] at h
    rw [← h, Nat.add_zero]
  | n + 1, k, i + 1, p, h => by
    rw [arrPl, List.getElem?_cons_succ] at h
    rw [arrPl_at sz n (k + 1) i p h, show k + 1 + i = k + (i + 1) by omega]
theorem LStep_buildArr {t e n sz : Nat} {parts : Array (Nat × Operand)} {zs out : List AV} (ho : o.op = .build t parts) (hT : T.desc t = some (.array n e)) (hS : T.size e = some sz) (hz : T.zeroC t = some zs)
    (hf : fillA (arrPl sz 0 n) zs (parts.toList.map fun p => (p.1, evalA env p.2)) = some out) (hd : dstOk o.dst O.nt = true) : LStep P O o env h [] [] (.agg out) [] := by
  refine .quiet hd (fun env' h' he _ a w G r => ?_)
  obtain ⟨z, hz1, hz2, hz3⟩ := zeroC_run hz w
  have hzr : CellsRep w (XX O h' G) G zs z.cells := by
    refine ⟨by rw [← hz2]; simp, fun i c v hi hv => ?_⟩
    rw [← hz2] at hi
    simp only [List.getElem?_map, Array.getElem?_toList, hv, Option.map_some, Option.some.injEq] at hi
    subst hi
    have := hz3 v (List.mem_of_getElem? (by rw [Array.getElem?_toList]; exact hv))
    exact ⟨.d _ _ (.sc _ this), this⟩
  obtain ⟨vout, f1, f2⟩ := fill_rep (w := w) (X := XX O h' G) (G := G) (fs := arrPl sz 0 n) (place := fun i => some (i * sz, sz)) (fun i p hp => by rw [arrPl_at sz n 0 i p hp, Nat.zero_add]) (parts.toList.map fun p => (p.1, evalA env p.2)) (parts.toList.map fun p => (p.1, a.eval p.2)) zs out z.cells hf hzr (by simp) (fun k p q hp hq => by
    simp only [List.getElem?_map, Option.map_eq_some_iff] at hp hq
    obtain ⟨p0, hp0, rfl⟩ := hp
    obtain ⟨q0, hq0, rfl⟩ := hq
    rw [hp0] at hq0
    cases hq0
    refine ⟨rfl, ?_⟩
    have := evalA_rep r.env p0.2
    rwa [he p0.2 (by
      have := List.mem_of_getElem? hp0
      simp only [ho, Op.operands]
      exact List.mem_map.2 ⟨p0, this, rfl⟩)] at this)
  refine ⟨.agg vout, ?_, .agg _ _ f2.1 (fun i c v hi hv => (f2.2 i c v hi hv).1) (fun i v hv => ?_)⟩
  · have hp2 : (parts.map fun x => (x.1, a.eval x.2)).toList = parts.toList.map fun p => (p.1, a.eval p.2) := by simp
    simp [execOp, ho, Instr.build, hz1, run_underlying (T.desc_ok hT), run_size T hS, f1]
  · have hlt : i < out.length := by rw [← f2.1]; exact (Array.getElem?_eq_some_iff.1 hv).1
    exact (f2.2 i _ v (List.getElem?_eq_getElem hlt) hv).2
theorem LStep_idxArrA {t e n sz k : Nat} {x i : Operand} {kd : IntKind} {cs out : List AV} (ho : o.op = .index t x i) (hT : T.desc t = some (.array n e)) (hg : T.agg e = some true) (hS : T.size e = some sz) (hx : evalA env x = .agg cs) (hi : evalA env i = .d (.sc (.int kd (k : Nat)))) (hd : dstOk o.dst O.nt = true) (hk : Nat.blt k n = true) (hl : Nat.ble (k * sz + sz) cs.length = true) (hc : (cs.drop (k * sz)).take sz = out) :
    LStep P O o env h [] [] (.agg out) [] := by
  have hk : k < n := by simpa [Nat.blt_eq] using hk
  have hl := Nat.le_of_ble_eq_true hl
  subst hc
  refine .quiet hd (fun env' h' he _ a w G r => ?_)
  have h1 := evalA_rep r.env x
  have h2 := evalA_rep r.env i
  rw [he x (by simp [ho, Op.operands]), hx] at h1
  rw [he i (by simp [ho, Op.operands]), hi] at h2
  have hi2 := h2.sc_inv
  generalize hv : a.eval x = v at h1
  cases h1 with
  | agg _ vs hs hc h1 =>
    refine ⟨.agg (vs.extract (k * sz) (k * sz + sz)), by simp [execOp, ho, hv, hi2, Instr.index, asIntOf, run_underlying (T.desc_ok hT), run_size T hS, part, run_isAgg T hg, hk], ?_⟩
    refine .agg _ _ (by simp; omega) (fun i c v hi hj => ?_) (fun i v hj => ?_)
    · rw [List.getElem?_take, List.getElem?_drop] at hi
      split at hi
      · rw [Array.getElem?_extract] at hj
        split at hj
        · exact hc (k * sz + i) c v hi hj
        · cases hj
      · cases hi
    · rw [Array.getElem?_extract] at hj
      split at hj
      · exact h1 _ v hj
      · cases hj
end
end Go.SL
/- The layer 'SL': maps whose entries' stamps are told (m[k] = v at a map from which may have been deleted). -/
namespace Go.SL
open Go.RowKit Go.MapKept
section
variable {P : Program} {O : Org} {T : Tab P} {Q : Exit → Env → Hp → Prop} {env : Env} {h : Hp} {all rest : List Oper} {o : Oper}
/-- no two stamps alike, all ahead of the clock -/
structure StOk (es : List (Value × AV)) (st : List Nat) (ck : Nat) : Prop where
  len : st.length = es.length
  nd : ∀ (i j s : Nat), st[i]? = some s → st[j]? = some s → i = j
  lt : ∀ s ∈ st, s < ck
/-- such a map is a map -/
theorem ObjRep.ofS {w : World} {X : Nat → Prop} {G : Ctx} {id kt et : Nat} {es : List (Value × AV)} {st : List Nat} {ck : Nat} (hst : StOk es st ck) (h : ObjRep w X G id (.mapS kt et es st ck)) : ObjRep w X G id (.map kt et es none) := by
  obtain ⟨b, ents, h1, h2, h3, h4, h5⟩ := h
  refine ⟨b, ents, ck, h1, h2, h3, h4, fun i j e e' hi hj hb => ?_, fun e he => ?_, trivial⟩
  · have g1 := h5 i e hi
    have g2 := h5 j e' hj
    rw [hb] at g1
    exact hst.nd i j _ g1 g2
  · obtain ⟨i, hi, he⟩ := List.getElem_of_mem he
    have hi' : i < ents.size := by simpa using hi
    have hq : ents[i]? = some e := by rw [Array.getElem?_eq_getElem hi']; exact congrArg some (by rw [← he]; simp)
    exact hst.lt _ (List.mem_of_getElem? (h5 i e hq))
/-- .. and is taken as one -/
theorem Rel.unS {a : Act} {w : World} {G : Ctx} {m kt et : Nat} {es : List (Value × AV)} {st : List Nat} {ck : Nat} (hst : StOk es st ck) (r : Rel O env h a w G) (hh : hget h m = some (.mapS kt et es st ck)) : Rel O env ((m, some (.map kt et es none)) :: h) a w G := by
  have conv : ∀ j o', hget ((m, some (.map kt et es none)) :: h) j = some o' → ∃ o0, hget h j = some o0 ∧ ∀ q, q ∈ j :: names o' → q ∈ j :: names o0 := by
    intro j o' h1
    rw [hget_cons] at h1
    by_cases e : m = j
    · subst e
      rw [if_pos rfl] at h1
      cases h1
      exact ⟨_, hh, fun q hq => by
        have : q = m := by simpa [names] using hq
        subst this
        exact List.mem_cons_self⟩
    · rw [if_neg e] at h1
      exact ⟨o', h1, fun q hq => hq⟩
  have hO : ∀ b, Own ((m, some (.map kt et es none)) :: h) G b → Own h G b := by
    intro b ⟨j, o', h1, q, hq, hb⟩
    obtain ⟨o0, h2, h3⟩ := conv j o' h1
    exact ⟨j, o0, h2, q, h3 q hq, hb⟩
  have hX : ∀ b, b < w.heap.size → XX O ((m, some (.map kt et es none)) :: h) G b → XX O h G b := fun b _ hx => hx.imp (fun q => q) (hO b)
  refine ⟨r.size, r.dfr, fun t => (r.env t).ext (Ext.refl (fun _ => False) w) (fun _ _ h => h.elim) hX (GStep.refl G), fun j o' h1 => ?_, fun j o1 q j' o2 q' b h1 hq h2 hq' e1 e2 => ?_, r.ext, fun b hb => r.own b (hO b hb), r.xlt, r.ids⟩
  · rw [hget_cons] at h1
    by_cases e : m = j
    · subst e
      rw [if_pos rfl] at h1
      cases h1
      exact ((r.obj m _ hh).ofS hst).mono hX
    · rw [if_neg e] at h1
      exact (r.obj j o' h1).mono hX
  · obtain ⟨p1, g1, g2⟩ := conv j o1 h1
    obtain ⟨p2, g3, g4⟩ := conv j' o2 h2
    exact r.dist j p1 q j' p2 q' b g1 (g2 q hq) g3 (g4 q' hq') e1 e2
theorem AW_unS {c : Code} (m : Nat) {kt et : Nat} {es : List (Value × AV)} {st : List Nat} {ck : Nat} (hst : StOk es st ck) (hh : hget h m = some (.mapS kt et es st ck)) (K : AW P O c Q env ((m, some (.map kt et es none)) :: h)) : AW P O c Q env h :=
  fun a w G r => K a w G (r.unS hst hh)
theorem ObjRep.toS {w : World} {X : Nat → Prop} {G : Ctx} {id kt et : Nat} {es : List (Value × AV)} (h : ObjRep w X G id (.map kt et es none)) : ∃ st ck, StOk es st ck ∧ ObjRep w X G id (.mapS kt et es st ck) := by
  obtain ⟨b, ents, clock, h1, h2, h3, h4, h5, h6, _⟩ := h
  have hat : ∀ (i s : Nat), (ents.toList.map (·.born))[i]? = some s → ∃ e, ents[i]? = some e ∧ e.born = s := fun i s hs => by
    rw [List.getElem?_map, Option.map_eq_some_iff] at hs
    obtain ⟨e, g1, g2⟩ := hs
    exact ⟨e, by rw [← Array.getElem?_toList]; exact g1, g2⟩
  refine ⟨ents.toList.map (·.born), clock, ⟨by simp [h3], fun i j s g1 g2 => ?_, fun s hs => ?_⟩, b, ents, h1, h2, h3, h4, fun i e hi => ?_⟩
  · obtain ⟨e, k1, k2⟩ := hat i s g1
    obtain ⟨e', k3, k4⟩ := hat j s g2
    exact h5 i j e e' k1 k3 (by rw [k2, k4])
  · obtain ⟨e, k1, rfl⟩ := List.mem_map.1 hs
    exact h6 e k1
  · rw [List.getElem?_map, Array.getElem?_toList, hi]; rfl
theorem Rel.toS {a : Act} {w : World} {G : Ctx} {m kt et : Nat} {es : List (Value × AV)} (r : Rel O env h a w G) (hh : hget h m = some (.map kt et es none)) : ∃ st ck, StOk es st ck ∧ Rel O env ((m, some (.mapS kt et es st ck)) :: h) a w G := by
  obtain ⟨st, ck, hst, hob⟩ := (r.obj m _ hh).toS
  refine ⟨st, ck, hst, ?_⟩
  have conv : ∀ j o', hget ((m, some (.mapS kt et es st ck)) :: h) j = some o' → ∃ o0, hget h j = some o0 ∧ ∀ q, q ∈ j :: names o' → q ∈ j :: names o0 := by
    intro j o' h1
    rw [hget_cons] at h1
    by_cases e : m = j
    · subst e
      rw [if_pos rfl] at h1
      cases h1
      exact ⟨_, hh, fun q hq => by
        have : q = m := by simpa [names] using hq
        subst this
        exact List.mem_cons_self⟩
    · rw [if_neg e] at h1
      exact ⟨o', h1, fun q hq => hq⟩
  have hO : ∀ b, Own ((m, some (.mapS kt et es st ck)) :: h) G b → Own h G b := by
    intro b ⟨j, o', h1, q, hq, hb⟩
    obtain ⟨o0, h2, h3⟩ := conv j o' h1
    exact ⟨j, o0, h2, q, h3 q hq, hb⟩
  have hX : ∀ b, b < w.heap.size → XX O ((m, some (.mapS kt et es st ck)) :: h) G b → XX O h G b := fun b _ hx => hx.imp (fun q => q) (hO b)
  refine ⟨r.size, r.dfr, fun t => (r.env t).ext (Ext.refl (fun _ => False) w) (fun _ _ h => h.elim) hX (GStep.refl G), fun j o' h1 => ?_, fun j o1 q j' o2 q' b h1 hq h2 hq' e1 e2 => ?_, r.ext, fun b hb => r.own b (hO b hb), r.xlt, r.ids⟩
  · rw [hget_cons] at h1
    by_cases e : m = j
    · subst e
      rw [if_pos rfl] at h1
      cases h1
      exact hob.mono hX
    · rw [if_neg e] at h1
      exact (r.obj j o' h1).mono hX
  · obtain ⟨p1, g1, g2⟩ := conv j o1 h1
    obtain ⟨p2, g3, g4⟩ := conv j' o2 h2
    exact r.dist j p1 q j' p2 q' b g1 (g2 q hq) g3 (g4 q' hq') e1 e2
theorem AW_toS {c : Code} (m : Nat) {kt et : Nat} {es : List (Value × AV)} (hh : hget h m = some (.map kt et es none)) (K : ∀ st ck, StOk es st ck → AW P O c Q env ((m, some (.mapS kt et es st ck)) :: h)) : AW P O c Q env h :=
  fun a w G r => let ⟨st, ck, hst, r'⟩ := r.toS hh; K st ck hst a w G r'
variable {t kt et id : Nat} {x i : Operand} {es : List (Value × AV)} {dk : KK} {k : Value} {c : AV} {st : List Nat} {ck : Nat}
theorem LStep_mapEntryS {v : Value} {zv : AV} {kt' et' : Nat} (ho : o.op = .mapEntry t x i) (hd : dstOk o.dst O.nt = true) (hT : T.desc t = some (.map kt et)) (hK : T.keyD kt = some dk) (hx : evalA env x = .mp id) (hi : keyV (evalA env i) = some k) (hk : keyB dk k = true)
    (hh : hget h id = some (.mapS kt' et' es st ck)) (hst : st.length = es.length) (hz : (lkT T.inf et).map (·.2.2) = some v) (hzv : zAV v = some zv) (hnz : noid zv = true) (hb : ∀ p ∈ es, keyB dk p.1 = true) (hm : mat k es 0 = none) :
    LStep P O o env h [id] [] (.tup [zv, .d (.sc (.int .i64 (ck : Nat)))]) [(id, some (.mapS kt' et' (es ++ [(k, zv)]) (st ++ [ck]) (ck + 1)))] := by
  intro env' h' he hTs _ a w G r K Q hKK
  have h1' := evalA_rep r.env x
  have h2 := evalA_rep r.env i
  rw [he x (by simp [ho, Op.operands]), hx] at h1'
  rw [he i (by simp [ho, Op.operands])] at h2
  replace h2 := keyV_rep hi h2
  have hh' := (hTs id (by simp)).trans hh
  obtain ⟨b, ents, e1, e2, e3, e4, e5⟩ := r.obj id _ hh'
  obtain ⟨q, f1, f2⟩ := find_mat hK hk es ents.toList hb (by simpa using e3) (fun j p e hj hj' => (e4 j p.1 p.2 e hj (by rw [← Array.getElem?_toList]; exact hj')).1)
  generalize hv : a.eval x = xv at h1'
  cases h1' with
  | mp _ b' hb' =>
    obtain rfl : b = b' := by rw [e1] at hb'; cases hb'; rfl
    have hown : XX O h' G b := .inr ⟨id, _, hh', id, List.mem_cons_self, by rw [e1]; rfl⟩
    unfold FoundAt at f2
    rw [hm] at f2
    subst f2
    · have hzr : ∀ w : World, (zeroValue et).run P w = .ok v w := by
        intro w
        cases hl : lkT T.inf et with
        | none => rw [hl] at hz; cases hz
        | some p =>
          obtain ⟨s, b, z⟩ := p
          rw [hl] at hz
          cases hz
          obtain ⟨i, e1, _, _, e4⟩ := T.inf_ok _ (lkT_mem hl)
          simp [zeroValue, typeInfo, e1, e4]
      generalize hob : Obj.map (ents.push { key := k, val := v, born := ck }) (ck + 1) = ob
      have hrun : (execOp a.eval o).run P w = .ok (.value (.tuple #[v, .int .i64 (ck : Nat)])) { w with heap := w.heap.setIfInBounds b ob } := by
        rw [← hob]
        simp [execOp, ho, hv, h2, Instr.mapEntry, run_underlying (T.desc_ok hT), Go.MapKept.run_getObj_map e2, chk_run hK hk, f1, hzr, run_setObj_map _ e2, Result.andThen, goInt]
      have hs := heap_set (o' := ob) e2
      have hext : Ext (fun n => n = b) w { w with heap := w.heap.setIfInBounds b ob } := ⟨rfl, rfl, rfl, by simp, fun n _ hne => hs.2 n hne, Nat.le_refl _⟩
      generalize hes : es ++ [(k, zv)] = es2 at hKK
      have hX : ∀ n, n < w.heap.size → XX O ((id, some (.mapS kt' et' es2 (st ++ [ck]) (ck + 1))) :: h') G n → XX O h' G n := fun n _ hc => Rel.turnX (o' := .mapS kt' et' es2 (st ++ [ck]) (ck + 1)) hh' rfl hc
      have hr : ∀ {z : AV} {u : Value}, Rep w (XX O h' G) G z u → Rep { w with heap := w.heap.setIfInBounds b ob } (XX O ((id, some (.mapS kt' et' es2 (st ++ [ck]) (ck + 1))) :: h') G) G z u :=
        fun hz => hz.ext hext (fun n _ hc => by subst hc; exact hown) hX (GStep.refl G)
      have hob2 : ObjRep { w with heap := w.heap.setIfInBounds b ob } (XX O ((id, some (.mapS kt' et' es2 (st ++ [ck]) (ck + 1))) :: h') G) G id (.mapS kt' et' es2 (st ++ [ck]) (ck + 1)) := by
        have hl2 : es2.length = es.length + 1 := by rw [← hes]; simp
        refine ⟨b, ents.push { key := k, val := v, born := ck }, e1, by rw [hs.1, ← hob], by simp [e3, hl2], fun n k' c' e h1 h2 => ?_, fun n e h1 => ?_⟩
        · rw [← hes] at h1
          rcases Nat.lt_trichotomy n es.length with hlt | he | hgt
          · rw [List.getElem?_append_left hlt] at h1
            rw [Array.getElem?_push_lt (by omega)] at h2
            have := e4 n k' c' e h1 (by rw [← h2, Array.getElem?_eq_getElem])
            exact ⟨this.1, hr this.2.1, this.2.2⟩
          · subst he
            rw [List.getElem?_append_right (Nat.le_refl _)] at h1
            simp only [Nat.sub_self, List.getElem?_cons_zero, Option.some.injEq, Prod.mk.injEq] at h1
            obtain ⟨rfl, rfl⟩ := h1
            rw [← e3, Array.getElem?_push_size] at h2
            cases h2
            exact ⟨rfl, zAV_rep hzv, hnz⟩
          · rw [List.getElem?_eq_none (by simp; omega)] at h1; cases h1
        · rcases Nat.lt_trichotomy n ents.size with hlt | he | hgt
          · rw [Array.getElem?_push_lt hlt] at h1
            have := e5 n e (by rw [← h1, Array.getElem?_eq_getElem])
            rw [List.getElem?_append_left (by omega)]
            exact this
          · subst he
            rw [Array.getElem?_push_size] at h1
            cases h1
            rw [List.getElem?_append_right (by omega), show ents.size - st.length = 0 by omega]
            rfl
          · rw [Array.getElem?_eq_none (by simp; omega)] at h1; cases h1
      have r1 := r.turn (o' := .mapS kt' et' es2 (st ++ [ck]) (ck + 1)) hh' hext (fun n _ hc => ⟨id, List.mem_cons_self, by subst hc; rw [e1]; rfl⟩) (GStep.refl G) (fun _ _ => ⟨rfl, rfl⟩) (fun _ => rfl) rfl (fun _ h _ => h) hob2 (fun _ h => .inr h) (by simp [names])
      refine wp_value hrun (hKK _ _ G (r1.put hd (.tup _ _ rfl (fun n y u hy hu => ?_))))
      match n, hy, hu with
      | 0, hy, hu => simp at hy hu; subst hy; subst hu; exact zAV_rep hzv
      | 1, hy, hu => simp at hy hu; subst hy; subst hu; exact .d _ _ (.sc _ rfl)
      | n + 2, hy, _ => simp at hy
theorem LStep_entryStoreS {y : Operand} {j s0 kt' et' : Nat} {c0 : AV} (ho : o.op = .entryStore t x i y) (hd : o.dst = none) (hx : evalA env x = .mp id) (hi : evalA env i = .d (.sc (.int .i64 (s0 : Nat)))) (hy : evalA env y = c)
    (hh : hget h id = some (.mapS kt' et' es st ck)) (hn : noid c = true) (hj : es[j]? = some (k, c0)) (hs0 : st[j]? = some s0) (hsu : ∀ n, n < j → st[n]? ≠ some s0) : LStep P O o env h [id] [] (.tup []) [(id, some (.mapS kt' et' (es.set j (k, c)) st ck))] := by
  intro env' h' he hTs _ a w G r K Q hKK
  have h1 := evalA_rep r.env x
  have h2 := evalA_rep r.env i
  have h3 := evalA_rep r.env y
  rw [he x (by simp [ho, Op.operands]), hx] at h1
  rw [he i (by simp [ho, Op.operands]), hi] at h2
  replace h2 := h2.sc_inv
  rw [he y (by simp [ho, Op.operands]), hy] at h3
  have hh' := (hTs id (by simp)).trans hh
  obtain ⟨b, ents, e1, e2, e3, e4, e5⟩ := r.obj id _ hh'
  have hlt : j < es.length := (List.getElem?_eq_some_iff.1 hj).1
  have hlt' : j < ents.size := by omega
  have hidx : ents.findIdx? (fun e => ((e.born : Nat) : Int) == ((s0 : Nat) : Int)) = some j := by
    rw [Array.findIdx?_eq_some_iff_getElem]
    refine ⟨hlt', ?_, fun n hn => ?_⟩
    · have := e5 j ents[j] (Array.getElem?_eq_getElem hlt')
      rw [hs0] at this
      injection this with this
      simp [← this]
    · have := e5 n ents[n] (Array.getElem?_eq_getElem (by omega))
      have h9 := hsu n hn
      rw [this] at h9
      simp only [ne_eq, Option.some.injEq] at h9
      simp only [beq_iff_eq]
      omega
  generalize hv : a.eval x = xv at h1
  cases h1 with
  | mp _ b' hb' =>
    obtain rfl : b = b' := by rw [e1] at hb'; cases hb'; rfl
    generalize hob : Obj.map (ents.modify j fun e => { e with val := a.eval y }) ck = ob
    have hrun : (execOp a.eval o).run P w = .ok .skip { w with heap := w.heap.setIfInBounds b ob } := by
      rw [← hob]
      simp [execOp, ho, hv, h2, Instr.entryStore, Go.MapKept.run_getObj_map e2, asInt, asIntOf, hidx, run_setObj_map _ e2, Result.andThen]
    have hs := heap_set (o' := ob) e2
    have hext : Ext (fun n => n = b) w { w with heap := w.heap.setIfInBounds b ob } := ⟨rfl, rfl, rfl, by simp, fun n _ hne => hs.2 n hne, Nat.le_refl _⟩
    generalize hes : es.set j (k, c) = es2 at hKK
    have hown : XX O h' G b := .inr ⟨id, _, hh', id, List.mem_cons_self, by rw [e1]; rfl⟩
    have hX : ∀ n, n < w.heap.size → XX O ((id, some (.mapS kt' et' es2 st ck)) :: h') G n → XX O h' G n := fun n _ hc => Rel.turnX (o' := .mapS kt' et' es2 st ck) hh' rfl hc
    have hr : ∀ {z : AV} {u : Value}, Rep w (XX O h' G) G z u → Rep { w with heap := w.heap.setIfInBounds b ob } (XX O ((id, some (.mapS kt' et' es2 st ck)) :: h') G) G z u :=
      fun hz => hz.ext hext (fun n _ hc => by subst hc; exact hown) hX (GStep.refl G)
    have hget : ∀ (n : Nat) (e : MapEntry), (ents.modify j fun e => { e with val := a.eval y })[n]? = some e → ∃ e0, ents[n]? = some e0 ∧ e = if j = n then { e0 with val := a.eval y } else e0 := by
      intro n e hn
      rw [Array.getElem?_modify] at hn
      by_cases hj : j = n
      · rw [if_pos hj, Option.map_eq_some_iff] at hn
        obtain ⟨e0, h1, h2⟩ := hn
        exact ⟨e0, h1, by rw [if_pos hj]; exact h2.symm⟩
      · rw [if_neg hj] at hn
        exact ⟨e, hn, by rw [if_neg hj]⟩
    have hl2 : es2.length = es.length := by rw [← hes]; simp
    refine wp_skipped hrun (hKK undef _ G ?_)
    rw [hd]
    refine r.turn hh' hext (fun n _ hc => ⟨id, List.mem_cons_self, by subst hc; rw [e1]; rfl⟩) (GStep.refl G) (fun _ _ => ⟨rfl, rfl⟩) (fun _ => rfl) rfl (fun _ h _ => h) ?_ (fun _ h => .inr h) (by simp [names])
    refine ⟨b, ents.modify j fun e => { e with val := a.eval y }, e1, by rw [hs.1, ← hob], by simp [e3, hl2], fun n k' c' e h1 h2 => ?_, fun n e h1 => ?_⟩
    · obtain ⟨e0, h4, h5⟩ := hget n e h2
      rw [← hes] at h1
      by_cases hjn : j = n
      · subst hjn
        rw [if_pos rfl] at h5
        rw [List.getElem?_set_self hlt] at h1
        cases h1
        rw [h5]
        exact ⟨(e4 j k c0 e0 hj h4).1, hr h3, hn⟩
      · rw [if_neg hjn] at h5
        rw [List.getElem?_set_ne hjn] at h1
        subst h5
        have := e4 n k' c' e h1 h4
        exact ⟨this.1, hr this.2.1, this.2.2⟩
    · obtain ⟨e0, h4, h5⟩ := hget n e h1
      have := e5 n e0 h4
      rw [h5]
      split <;> exact this
end
end Go.SL
/- The layer 'SL': objects under other names. -/
namespace Go.SL
open Go.RowKit
section
variable {P : Program} {O : Org} {Q : Exit → Env → Hp → Prop} {env : Env} {h : Hp}
variable {o : Oper} {x : Operand}
end
end Go.SL
/- The layer 'SL': from a law's contract to its row, where a package's variable is read (laid by the row). -/
namespace Go.SL
open Go.RowKit Go.WideShapes Go.ChangeShapes
/-- a cell's shape that no block of ints alone can bear -/
def goodC : CS → Bool
  | .sl _ _ cs => anyNI cs && goodL cs
  | _ => true
where
  anyNI : List CS → Bool
    | [] => false
    | .int .i64 :: r => anyNI r
    | _ :: _ => true
  goodL : List CS → Bool
    | [] => true
    | c :: r => goodC c && goodL r
theorem goodL_at : ∀ {cs : List CS} {j : Nat} {c : CS}, goodC.goodL cs = true → cs[j]? = some c → goodC c = true
  | [], j, c, _, h => by simp at h
  | a :: r, 0, c, hg, h => by
    simp only [List.getElem?_cons_zero, Option.some.injEq] at h
    subst h
    rw [goodC.goodL, Bool.and_eq_true] at hg
    exact hg.1
  | a :: r, j + 1, c, hg, h => by
    rw [goodC.goodL, Bool.and_eq_true] at hg
    exact goodL_at hg.2 (by simpa using h)
theorem anyNI_at : ∀ {cs : List CS}, goodC.anyNI cs = true → ∃ (j : Nat) (c : CS), cs[j]? = some c ∧ c ≠ .int .i64
  | [], h => by cases h
  | c :: r, h => by
    by_cases hc : c = .int .i64
    · subst hc
      obtain ⟨j, c, h1, h2⟩ := anyNI_at (cs := r) h
      exact ⟨j + 1, c, by simpa using h1, h2⟩
    · exact ⟨0, c, rfl, hc⟩
theorem RepD.avoid {w : World} {X : Nat → Prop} {b0 : Nat} (hint : ∀ off v, w.cell? ⟨b0, off, none⟩ = some v → ∃ n, v = .int .i64 n) {x : D} {v : Value} (h : RepD w X x v) : ∀ {c : CS}, OkC c x → goodC c = true → RepD w (fun b => X b ∨ b = b0) x v := by
  induction h with
  | sc v h1 => exact fun _ _ => .sc v h1
  | sl sz es A n c b off vs hn hcap hA hsz hcell hrep ih =>
    intro cs hok hg
    cases hok with
    | sl _ bs ks _ hl hz he =>
      rw [goodC, Bool.and_eq_true] at hg
      refine .sl sz es A n c b off vs hn hcap (fun h0 => ?_) hsz hcell (fun i e hi j x hj => ?_)
      · obtain ⟨e1, e2, e3⟩ := hA h0
        refine ⟨e1, e2, fun hx => ?_⟩
        rcases hx with hx | rfl
        · exact e3 hx
        · obtain ⟨j, k, hj, hk⟩ := anyNI_at hg.1
          have h0' : 0 < es.length := by omega
          have hi : es[0]? = some es[0] := List.getElem?_eq_getElem h0'
          have hlen := hz es[0] (List.getElem_mem h0')
          have hjl : j < es[0].length := by rw [hlen]; exact (List.getElem?_eq_some_iff.1 hj).1
          obtain ⟨y, hx⟩ : ∃ y, es[0][j]? = some y := ⟨_, List.getElem?_eq_getElem hjl⟩
          have h2 := he es[0] (List.getElem_mem h0') j k y hj hx
          have h3 := hrep 0 es[0] hi j y hx
          obtain ⟨nn, hv⟩ := hint _ _ (hcell 0 es[0] hi j _ hx)
          rw [hv] at h3
          cases h2 with
          | int => cases h3; exact hk rfl
          | bool b => cases h3
          | str s => cases h3
          | sl => cases h3
      · have hjk : j < ks.length := by rw [← hz e (List.mem_of_getElem? hi)]; exact (List.getElem?_eq_some_iff.1 hj).1
        exact ih i e hi j x hj (he e (List.mem_of_getElem? hi) j _ x (List.getElem?_eq_getElem hjk) hj) (goodL_at hg.2 (List.getElem?_eq_getElem hjk))
def goodK : Option (Bool × List CS) → Bool
  | some (_, cs) => goodC.goodL cs
  | none => false
theorem OkArgs.avoid {w : World} {G : Ctx} {b0 : Nat} (hint : ∀ off v, w.cell? ⟨b0, off, none⟩ = some v → ∃ n, v = .int .i64 n) : ∀ {ks : List (Option (Bool × List CS))} {xs0 : List AV}, OkArgs ks xs0 → (∀ k ∈ ks, goodK k = true) → ∀ (i : Nat) (x : AV) (v : Value), xs0[i]? = some x →
    Rep w (fun _ => False) G x v → Rep w (fun b => b = b0) G x v
  | [], xs0, h, _, i, x, v, hx, _ => by rw [h.nil_inv] at hx; simp at hx
  | some (true, css) :: ks, _, h, hg, 0, x, v, hx, hr => by
    obtain ⟨y, r, rfl, h1, _⟩ := h.cons_inv
    simp only [List.getElem?_cons_zero, Option.some.injEq] at hx
    subst hx
    obtain ⟨ds, rfl, h2⟩ := h1
    obtain ⟨e1, e2⟩ := h2.at
    have hgg : goodC.goodL css = true := hg _ List.mem_cons_self
    cases hr with
    | agg _ vs hs hc h1 =>
      refine .agg _ vs hs (fun i c u hi hu => ?_) h1
      have h3 := hc i c u hi hu
      rw [List.getElem?_map] at hi
      obtain ⟨d, hd, rfl⟩ := Option.map_eq_some_iff.1 hi
      have hlt : i < css.length := by rw [← e1]; exact (List.getElem?_eq_some_iff.1 hd).1
      cases h3 with
      | d _ _ h3 => exact .d _ _ ((h3.avoid hint (e2 i _ d (List.getElem?_eq_getElem hlt) hd) (goodL_at hgg (List.getElem?_eq_getElem hlt))).ext (Ext.refl (fun _ => False) w) (fun _ _ h => h.elim) (fun b _ hb => .inr hb))
  | some (false, css) :: ks, _, h, hg, 0, x, v, hx, hr => by
    obtain ⟨y, r, rfl, h1, _⟩ := h.cons_inv
    simp only [List.getElem?_cons_zero, Option.some.injEq] at hx
    subst hx
    have hgg : goodC.goodL css = true := hg _ List.mem_cons_self
    match css, h1, hgg with
    | [c], h1, hgg =>
      obtain ⟨d, rfl, h2⟩ := h1
      rw [goodC.goodL, Bool.and_eq_true] at hgg
      cases hr with
      | d _ _ h3 => exact .d _ _ ((h3.avoid hint h2 hgg.1).ext (Ext.refl (fun _ => False) w) (fun _ _ h => h.elim) (fun b _ hb => .inr hb))
  | none :: ks, xs0, h, _, 0, x, v, hx, _ => by cases xs0 with | nil => simp at hx | cons => exact h.elim
  | some k :: ks, _, h, hg, i + 1, x, v, hx, hr => by
    obtain ⟨y, r, rfl, _, h2⟩ := h.cons_inv
    exact OkArgs.avoid hint h2 (fun k hk => hg k (List.mem_cons_of_mem _ hk)) i x v (by simpa using hx) hr
  | none :: ks, xs0, h, _, i + 1, x, v, hx, _ => by cases xs0 with | nil => simp at hx | cons => exact h.elim
section
variable {P : Program} (T : Tab P)
/-- The row's step, a variable handed in whole. -/
theorem law_contractG {TT : TypeId → Prop} (K : Kids P TT) (hz : ∀ t e, TT t → P.underlying t = some (.slice e) → 0 < P.cellsOf e) {f : FuncId} {fn : Func} {s : ChangeSpec} {ts : List Nat} (hts : fn.params.toList = ts) {rt : Nat} (hrt : fn.resultTypes = #[rt]) (hu : T.desc rt = some .bool) (hvars : s.vars = [])
    (hT : ∀ t ∈ ts, TT t) (hk : ∀ t ∈ ts, ∃ k, argK T t = some k) (hgd : ((ts.map (argK T)).all goodK) = true) {H : Type} {enc : TypeId × Value → H} (hs : AnyTrue (H := H) s ts.length) (b0 : Nat) (arr : Array Value) (ty : Nat) (hint : ∀ v ∈ arr.toList, ∃ n, v = .int .i64 n)
    (C : ∀ args, OkArgs (ts.map (argK T)) args → AC P f args [(9000, some (.raw b0 (.cells arr ty (0, 0))))] [9000] (fun r h' => r = .d (.sc (.bool true)) ∧ SubH [(9000, some (.raw b0 (.cells arr ty (0, 0))))] h'))
    (W : World) (hW0 : W.heap[b0]? = some (.cells arr ty (0, 0))) (base : Nat) (args : Array Value) (ds gs : List (DataW H)) (before : List MemPlace)
    (hval : ∀ (j : Nat) t v, fn.params[j]? = some t → args[j]? = some v → Value.okWide P W .any base t v)
    (hW : DataW.Whole enc P fn.params.toList s.vars false W args.toList ds gs before)
    (hsz : (DataW.weightsEach P (fn.params.toList ++ s.plain.varTypes P) (ds ++ gs)).all (· ≤ reachBytes) = true) :
    Calls P f args W fun e W' => ∃ v, e = .returned v ∧ s.post enc P fn false true false false W args v W' := by
  have hW' := hW
  obtain ⟨p, q, hA, hV, hps, hfz, hnd⟩ := hW
  rw [hvars] at hV
  have hgs : gs = [] ∧ q = [] := by
    cases gs with
    | nil => exact ⟨rfl, hV⟩
    | cons => exact hV.elim
  obtain ⟨rfl, rfl⟩ := hgs
  rw [List.append_nil] at hps
  subst hps
  rw [hts] at hA
  generalize hG : (⟨fun _ => .pointer (some ⟨b0, 0, none⟩), fun _ => 0⟩ : Ctx) = G
  have hm : ∀ i, G.m i = .pointer (some ⟨b0, 0, none⟩) := fun i => by rw [← hG]
  obtain ⟨xs0, o1, o2, o3⟩ := args_open (r := .any) (b0 := base) (G := G) T ts args.toList ds before hA (fun j t v ht hv => hval j t v (by rw [← hts] at ht; simpa using ht) (by simpa using hv)) hk (fun n hn => by
      rw [hts, List.append_nil, wEach_append _ _ _ (trodAll_len ts _ _ _ hA)] at hsz
      simpa using List.all_eq_true.1 hsz n hn)
  generalize hh0 : ([(9000, some (.raw b0 (.cells arr ty (0, 0))))] : Hp) = h0 at C
  have hget0 : ∀ id o, hget h0 id = some o → id = 9000 ∧ o = .raw b0 (.cells arr ty (0, 0)) := fun id o ho => by
    rw [← hh0, hget_cons] at ho
    split at ho
    · rename_i e; cases ho; exact ⟨e.symm, rfl⟩
    · cases ho
  have hO : ∀ b, Own h0 G b → b = b0 := fun b hb => by
    obtain ⟨id, o, _, j, _, hj⟩ := hb
    rw [hm] at hj
    cases hj
    rfl
  have r0 : Rel (org W (fun _ => False) h0 G [9000] 0) [] h0 noAct W G :=
    ⟨rfl, rfl, fun t => .any _, fun id o ho => (by obtain ⟨rfl, rfl⟩ := hget0 id o ho; exact ⟨hm _, hW0⟩), fun id o j id' o' j' b h1 h2 h3 h4 _ _ => (by
      obtain ⟨rfl, rfl⟩ := hget0 id o h1
      obtain ⟨rfl, rfl⟩ := hget0 id' o' h3
      simp only [names, List.mem_cons, List.not_mem_nil, or_false] at h2 h4
      exact ⟨rfl, by rw [h2, h4]⟩), Ext.refl _ W, fun b hb _ => hb, fun b hb => hb.elim, fun id _ => rfl⟩
  have hi : ∀ off v, W.cell? ⟨b0, off, none⟩ = some v → ∃ n, v = .int .i64 n := fun off v hv => by
    rw [cell_of_row W b0 off arr ty (0, 0) hW0] at hv
    exact hint v (by rw [← Array.getElem?_toList] at hv; exact List.mem_of_getElem? hv)
  have hC := (C xs0 o1).2 W (fun _ => False) G args.toList r0 o2 (fun i x v hx hv => (OkArgs.avoid hi o1 (fun k hk => List.all_eq_true.1 hgd k hk) i x v hx (o3 i x v hx hv)).ext (Ext.refl (fun _ => False) W) (fun _ _ h => h.elim) (fun b _ hb => by
    rcases hb with h | h
    · exact h.elim
    · exact hO b h) (GStep.refl _))
  rw [Array.toArray_toList] at hC
  refine hC.mono ?_
  rintro e W' ⟨v, r, h', G', rfl, hr, hrep, rfl, hsub⟩
  have hv := hrep.sc_inv
  subst hv
  have hraw := hr.obj 9000 (.raw b0 (.cells arr ty (0, 0))) (by rw [← hh0] at hsub; exact hsub.1)
  have hb : Below W.heap.size W W' := by
    refine ⟨hr.ext.os, hr.ext.tape, hr.ext.output, hr.ext.size, fun k hk => ?_⟩
    by_cases e : k = b0
    · subst e
      rw [hraw.2, hW0]
    · exact hr.ext.block k hk (fun hx => e (hO k hx))
  have hlt : ∀ p ∈ before, p.block < W.heap.size := fun p hp => hW'.lt p hp
  have hlen := trodAll_len ts _ _ _ hA
  have hfn : s.fn H (ds ++ []) = { results := [.lit (.bool true)], args := ds } := by rw [List.append_nil]; exact hs ds hlen
  have hres : ∀ (b : Nat) (sp : Nat → Bool) (hd : Bool), DataW.TrodAll enc P W' b sp hd fn.resultTypes.toList ((Value.bool true).resultList fn.resultTypes.size) (s.fn H (ds ++ [])).results [] := by
    intro b sp hd
    rw [hfn, hrt]
    exact trodAll_cons_mk (shut_bool (T.desc_ok hu) _) trodAll_mk0
  have hread : ∀ sp : Nat → Bool, (∀ p ∈ before, sp p.block = true) → DataW.TrodAll enc P W' 0 sp true fn.params.toList args.toList (s.fn H (ds ++ [])).args before := by
    intro sp hsp
    rw [hfn, hts]
    exact trodAll_below hb ts _ _ _ (hA.respare K hz hT hsp) hlt
  refine ⟨_, rfl, ds, [], before, [], before, [], hW', hres _ _ _, hread _ (fun p hp => by simpa using hlt p hp), by rw [hvars, hfn]; exact rfl, World.keptBut_mono (fun p hp => ⟨hp, .inr (.inl hp)⟩) (hb.frame (· ∈ before)), fun h => by cases h⟩
end
section
variable {H : Type} {enc : TypeId × Value → H}
/-- The wrap: sized, shaped, the variable laid. -/
theorem returns_laid {a : Assume} {C : Checked} {os : Os} {f : FuncId} {fn : Func} {s : ChangeSpec} {conds : List PathCond} {apart fresh handsOn again : Bool} {X : World → Array Value → Prop}
    (hX : ∀ (w w' : World) (args : Array Value), w.heap = w'.heap → X w args → X w' args)
    (own : ownKnob C.prog.godebug = none) (started : os.Started) (noInit : C.prog.inits.idxOf? f = none) (hfn : C.prog.funcs[f]? = some fn)
    (witness : ∃ (w : World) (tape : Tape) (i : Input), w.os = os ∧ (w.forCall tape i).Shaped C.prog ∧ i.vars = [] ∧ Input.okWide C.prog (w.forCall tape i) .any w.heap.size f i ∧
      ((s.pre enc C.prog fn conds apart (w.forCall tape i).memory i.args ∧ X (w.forCall tape i).memory i.args) ∧ sizedMet enc C.prog fn (OpenSpec.ofChange s) apart (w.forCall tape i).memory i.args) ∧ a.holds C.prog (lone (Frame.enter C.prog f i.args .normal) [] (w.forCall tape i)))
    (contract : ∀ (W : World) (base : Nat) (args : Array Value) (ds gs : List (DataW H)) (before : List MemPlace),
      (∀ (j : Nat) t v, fn.params[j]? = some t → args[j]? = some v → Value.okWide C.prog W .any base t v) →
      DataW.Whole enc C.prog fn.params.toList s.vars apart W args.toList ds gs before →
      (DataW.weightsEach C.prog (fn.params.toList ++ s.plain.varTypes C.prog) (ds ++ gs)).all (· ≤ reachBytes) = true → X W args → W.ShapedOpen C.prog →
      Calls C.prog f args W fun e W' => ∃ v, e = .returned v ∧ s.post enc C.prog fn apart fresh handsOn again W args v W') :
    ReturnsInHanded a C os f .any (fun w args => (s.pre enc C.prog fn conds apart w args ∧ X w args) ∧ sizedMet enc C.prog fn (OpenSpec.ofChange s) apart w args) (s.post enc C.prog fn apart fresh handsOn again) := by
  refine returnsInHanded_of_calls own started noInit witness ?_
  intro w tape i _ hsh _ hok hpre hholds
  obtain ⟨_, _, _, fn', hfn', _, _, _, _, hval⟩ := hok
  have e : fn' = fn := Option.some.inj (hfn'.symm.trans hfn)
  subst e
  obtain ⟨⟨⟨ds, gs, before, hw, hc⟩, hx⟩, hz⟩ := hpre
  have hw' := DataW.Whole.of_heap (w' := w.forCall tape i) (by rfl) hw
  refine (contract (w.forCall tape i) w.heap.size i.args ds gs before hval hw' (hz.weights hw) (hX _ _ _ (by rfl) hx) hsh).mono fun e W' ⟨v, he, hp⟩ => ?_
  subst he
  exact ChangeSpec.post_blind hp
end
end Go.SL
