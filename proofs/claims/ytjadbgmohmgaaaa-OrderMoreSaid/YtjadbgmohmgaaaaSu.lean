/- The layer 'SL': own rows by index: read, and written in place; an object under another name. -/
import Derived.Test.YtjadbgmohmgaaaaSm
namespace Go.SL
open Go.RowKit
section
variable {P : Program} {O : Org} {T : Tab P} {Q : Exit → Env → Hp → Prop} {env : Env} {h : Hp} {o : Oper}

/-- an own row that is not empty: its block -/
theorem row_block {w : World} {X : Nat → Prop} {G : Ctx} {id ety sz : Nat} {es : List (List D)} (ho : ObjRep w X G id (.arr ety sz es)) (hn : 0 < es.length) :
    ∃ g cap cur, G.m id = .slice (some ⟨g, 0, none⟩) es.length cap ∧ w.heap[g]? = some (.cells cur ety (0, 0)) ∧ es.length ≤ cap ∧ cap ≤ maxLen ∧ cur.size = cap * sz ∧
      ∀ (i : Nat) (e : List D), es[i]? = some e → ∀ (j : Nat) (x : D), e[j]? = some x → ∃ v, cur[i * sz + j]? = some v ∧ RepD w X x v := by
  obtain ⟨_, _, _, xs, hown, h5⟩ := ho
  rcases hown.2 with ⟨_, e2⟩ | ⟨g, cap, cur, e1, _, e3, e4, e5, e6, e7⟩
  · omega
  · refine ⟨g, cap, cur, e1, e3, e4, e5, e6, fun i e hi j x hj => ?_⟩
    obtain ⟨v, a1, a2⟩ := h5 i e hi j x hj
    refine ⟨v, ?_, a2⟩
    rw [← e7, List.getElem?_take] at a1
    split at a1
    · rw [Array.getElem?_toList] at a1; exact a1
    · cases a1
theorem LStep_indexOwn {t e sz id n ety : Nat} {x i : Operand} {es : List (List D)} {kd : IntKind} {k : Int} (ho : o.op = .indexAddr t x i) (hT : T.desc t = some (.slice e)) (hS : T.size e = some sz) (hx : evalA env x = .own id n) (hi : evalA env i = .d (.sc (.int kd k)))
    (hh : hget h id = some (.arr ety sz es)) (hd : dstOk o.dst O.nt = true) (hn : es.length = n) (hk : 0 ≤ k) (hkn : k < (es.length : Nat)) : LStep P O o env h [id] [] (.eptr id n sz k.toNat 0) [] := by
  refine .quiet hd (fun env' h' he ht a w G r => ?_)
  have h1 := evalA_rep r.env x
  have h2 := evalA_rep r.env i
  rw [he x (by simp [ho, Op.operands]), hx] at h1
  rw [he i (by simp [ho, Op.operands]), hi] at h2
  have hob := r.obj id _ ((ht id (by simp)).trans hh)
  obtain ⟨g, cap, cur, e1, e2, _⟩ := row_block hob (by omega)
  generalize hv : a.eval x = v at h1
  cases h1 with
  | own _ _ _ _ hle hm hvv =>
    have e := hvv (by rw [hob.1, hn])
    subst e
    rw [e1] at hv
    refine ⟨.pointer (some ⟨g, k.toNat * sz + 0, none⟩), ?_, .eptr id n sz k.toNat 0 _ rfl hle hm (fun _ => ⟨g, cap, by rw [e1, hn], rfl⟩)⟩
    simp [execOp, ho, hv, h2.sc_inv, Instr.indexAt, asIntOf, run_underlying (T.desc_ok hT), run_size T hS, Addr.add_lit, show 0 ≤ k ∧ k < (es.length : Int) from ⟨hk, hkn⟩]
theorem LStep_loadE {t id n sz k off ety : Nat} {x : Operand} {es : List (List D)} {e : List D} {c : D} (ho : o.op = .load t x) (ha : T.agg t = some false) (hx : evalA env x = .eptr id n sz k off) (hh : hget h id = some (.arr ety sz es)) (hd : dstOk o.dst O.nt = true)
    (hn : es.length = n) (hk : es[k]? = some e) (hc : e[off]? = some c) : LStep P O o env h [id] [] (.d c) [] := by
  refine .quiet hd (fun env' h' he ht a w G r => ?_)
  have h1 := evalA_rep r.env x
  rw [he x (by simp [ho, Op.operands]), hx] at h1
  have hob := r.obj id _ ((ht id (by simp)).trans hh)
  obtain ⟨g, cap, cur, e1, e2, _, _, _, e6⟩ := row_block hob (by have := (List.getElem?_eq_some_iff.1 hk).1; omega)
  generalize hv : a.eval x = v at h1
  cases h1 with
  | eptr _ _ _ _ _ _ h1 hle hm hvv =>
    obtain ⟨b, c', f1, rfl⟩ := hvv (by rw [hob.1, hn])
    obtain rfl : g = b := by rw [e1] at f1; cases f1; rfl
    obtain ⟨u, g1, g2⟩ := e6 k e hk off c hc
    exact ⟨u, by simp [execOp, ho, hv, Instr.loadAt, Instr.sureAddr, run_loadVar1 T ha (show w.cell? ⟨g, k * sz + off, none⟩ = some u by rw [cell_of_row w g (k * sz + off) cur ety (0, 0) e2, g1])], .d _ _ g2⟩
theorem LStep_indexOwnM {t e sz id n ety : Nat} {x i : Operand} {es : List (List D)} {kd : IntKind} {k : Nat} (ho : o.op = .indexAddr t x i) (hT : T.desc t = some (.slice e)) (hS : T.size e = some sz) (hx : evalA env x = .own id n) (hi : evalA env i = .d (.sc (.int kd (k : Nat))))
    (hh : hget h id = some (.arr ety sz es)) (hd : dstOk o.dst O.nt = true) (hn : es.length = n) (hkn : k < es.length) : LStep P O o env h [id] [] (.eptr id n sz k 0) [] := by
  have := LStep_indexOwn (k := (k : Int)) ho hT hS hx hi hh hd hn (by omega) (by omega)
  rwa [Int.toNat_natCast] at this
theorem LStep_loadEM {t id n sz k off ety : Nat} {x : Operand} {α : Type} {enc : α → List D} {l : List α} {c : α} {d : D} (ho : o.op = .load t x) (ha : T.agg t = some false) (hx : evalA env x = .eptr id n sz k off) (hh : hget h id = some (.arr ety sz (l.map enc))) (hd : dstOk o.dst O.nt = true)
    (hn : (l.map enc).length = n) (hk : l[k]? = some c) (hc : (enc c)[off]? = some d) : LStep P O o env h [id] [] (.d d) [] :=
  LStep_loadE ho ha hx hh hd hn (e := enc c) (by rw [List.getElem?_map, hk]; rfl) hc
/-! ### a store into an own row's element -/
def setsD : List D → Nat → List D → List D
  | cs, _, [] => cs
  | cs, k, c :: r => setsD (cs.set k c) (k + 1) r
theorem setsD_len : ∀ (l cs : List D) (k : Nat), (setsD cs k l).length = cs.length
  | [], _, _ => rfl
  | c :: l, cs, k => by rw [setsD, setsD_len l, List.length_set]
theorem setsD_get : ∀ (l cs : List D) (k j : Nat), k + l.length ≤ cs.length → (setsD cs k l)[j]? = if k ≤ j ∧ j < k + l.length then l[j - k]? else cs[j]?
  | [], cs, k, j, _ => by rw [if_neg (by simp only [List.length_nil]; omega)]; rfl
  | c :: l, cs, k, j, h => by
    simp only [List.length_cons] at h ⊢
    rw [setsD, setsD_get l (cs.set k c) (k + 1) j (by rw [List.length_set]; omega)]
    by_cases h1 : k + 1 ≤ j ∧ j < k + 1 + l.length
    · rw [if_pos h1, if_pos (by omega), show j - k = (j - (k + 1)) + 1 by omega, List.getElem?_cons_succ]
    · rw [if_neg h1]
      by_cases h2 : j = k
      · subst h2
        rw [if_pos (by omega), Nat.sub_self, List.getElem?_cons_zero, List.getElem?_set_self (by omega)]
      · rw [if_neg (by omega), List.getElem?_set_ne (by omega)]
theorem LStep_storeE {t m id n sz k off ety : Nat} {x y : Operand} {es : List (List D)} {e : List D} {vs : List AV} {ds : List D} (ho : o.op = .store t x y) (hd : o.dst = none) (hm : T.size t = some m) (hx : evalA env x = .eptr id n sz k off) (hh : hget h id = some (.arr ety sz es))
    (hv : cellsA (evalA env y) = some vs) (hD : asDs vs = some ds) (hl : ds.length = m) (hn : es.length = n) (hk : es[k]? = some e) (hfit : off + m ≤ sz) :
    LStep P O o env h [id] [] (.tup []) [(id, some (.arr ety sz (es.set k (setsD e off ds))))] := by
  intro env' h' he ht _ a w G r K Q hK
  have h1 := evalA_rep r.env x
  have h2 := evalA_rep r.env y
  rw [he x (by simp [ho, Op.operands]), hx] at h1
  rw [he y (by simp [ho, Op.operands])] at h2
  obtain ⟨hs, hcc⟩ := cellsA_rep hv h2
  obtain rfl := asDs_inv hD
  have hh' := (ht id (by simp)).trans hh
  have hob := r.obj id _ hh'
  have hkl : k < es.length := (List.getElem?_eq_some_iff.1 hk).1
  obtain ⟨g, cap, cur, e1, e2, e3, e4, e5, e6⟩ := row_block hob (by omega)
  have hel : e.length = sz := hob.2.2.1 k e hk
  rw [List.length_map] at hs
  generalize hvv : a.eval x = v at h1
  cases h1 with
  | eptr _ _ _ _ _ _ h1 hle hmm hvv2 =>
    obtain ⟨b, c', f1, rfl⟩ := hvv2 (by rw [hob.1, hn])
    obtain rfl : g = b := by rw [e1] at f1; cases f1; rfl
    have hlen : (a.eval y).cells.toList.length = m := by rw [Array.length_toList, hs, hl]
    have hkc : k * sz + sz ≤ cap * sz := by rw [← Nat.succ_mul]; exact Nat.mul_le_mul_right _ (by omega)
    obtain ⟨w', arr', f1', f2, f3, f4, f5⟩ := run_stores (P := P) (a.eval y).cells.toList (k * sz + off) 0 cur w e2 (by omega) (fun u hu => by
      obtain ⟨i, hi, ei⟩ := List.getElem_of_mem hu
      have hi' : i < (ds.map AV.d).length := by rw [Array.length_toList, hs] at hi; rw [List.length_map]; exact hi
      exact (hcc i (ds.map AV.d)[i] u (List.getElem?_eq_getElem hi') (by rw [← Array.getElem?_toList, List.getElem?_eq_getElem hi, ei])).2)
    have hrun : (execOp a.eval o).run P w = .ok .skip w' := by
      have hsz : (a.eval y).cells.size = m := by rw [hs, hl]
      simp [execOp, ho, hvv, Instr.storeAt, Instr.sureAddr, storeVar, run_size T hm, hsz, f1']
    have hown : XX O h' G g := .inr ⟨id, _, hh', id, List.mem_cons_self, by rw [e1]; rfl⟩
    have hX : ∀ c, c < w.heap.size → XX O ((id, some (.arr ety sz (es.set k (setsD e off ds)))) :: h') G c → XX O h' G c := fun c _ hc => Rel.turnX (o' := .arr ety sz (es.set k (setsD e off ds))) hh' rfl hc
    have hr : ∀ {z : D} {u : Value}, RepD w (XX O h' G) z u → RepD w' (XX O ((id, some (.arr ety sz (es.set k (setsD e off ds)))) :: h') G) z u :=
      fun hz => hz.ext f3 (fun c _ hc => by subst hc; exact hown) hX
    refine wp_skipped hrun (hK undef w' G ?_)
    rw [hd]
    refine r.turn hh' f3 (fun c _ hc => ⟨id, List.mem_cons_self, by subst hc; rw [e1]; rfl⟩) (GStep.refl G) (fun _ _ => ⟨rfl, rfl⟩) (fun _ => rfl) rfl (fun _ h _ => h) ?_ (fun _ h => .inr h) (by simp [names])
    have hns : es.length * sz ≤ cap * sz := Nat.mul_le_mul_right _ e3
    have hsize : arr'.size = cap * sz := by rw [f4, e5]
    refine ⟨by rw [List.length_set]; exact hob.1, hob.2.1, fun i e' hi => ?_, arr'.toList.take (es.length * sz), ⟨?_, .inr ⟨g, cap, arr', by rw [List.length_set]; exact e1, Nat.zero_le _, f2, by rw [List.length_set]; exact e3, e4, hsize, by rw [List.length_set]⟩⟩, fun i e' hi j z hj => ?_⟩
    · by_cases hik : k = i
      · subst hik
        rw [List.getElem?_set_self hkl] at hi
        cases hi
        rw [setsD_len]; exact hel
      · rw [List.getElem?_set_ne hik] at hi
        exact hob.2.2.1 i e' hi
    · have ht : arr'.toList.length = cap * sz := by rw [Array.length_toList, hsize]
      rw [List.length_take, ht, List.length_set]
      exact Nat.min_eq_left hns
    · have hie : i < es.length := by
        have := (List.getElem?_eq_some_iff.1 hi).1
        rwa [List.length_set] at this
      have hel' : e'.length = sz := by
        by_cases hik : k = i
        · subst hik
          rw [List.getElem?_set_self hkl] at hi
          cases hi
          rw [setsD_len]; exact hel
        · rw [List.getElem?_set_ne hik] at hi
          exact hob.2.2.1 i e' hi
      have hjs : j < sz := by have := (List.getElem?_eq_some_iff.1 hj).1; omega
      have hin : i * sz + j < es.length * sz := by
        have : (i + 1) * sz ≤ es.length * sz := Nat.mul_le_mul_right _ hie
        rw [Nat.succ_mul] at this
        omega
      have hget : (arr'.toList.take (es.length * sz))[i * sz + j]? = arr'[i * sz + j]? := by rw [List.getElem?_take, if_pos hin, Array.getElem?_toList]
      rw [hget, f5 (i * sz + j), Nat.add_zero, hlen]
      by_cases hik : k = i
      · subst hik
        rw [List.getElem?_set_self hkl] at hi
        cases hi
        rw [setsD_get ds e off j (by omega)] at hj
        by_cases hc : off ≤ j ∧ j < off + ds.length
        · rw [if_pos hc] at hj
          rw [if_pos (by omega)]
          have hjj : k * sz + j - (k * sz + off) = j - off := by omega
          rw [hjj]
          have hlt : j - off < (a.eval y).cells.size := by omega
          have hq := Array.getElem?_eq_getElem hlt
          have := (hcc (j - off) (.d z) _ (by rw [List.getElem?_map, hj]; rfl) hq).1
          refine ⟨(a.eval y).cells[j - off], by rw [Array.getElem?_toList]; exact hq, ?_⟩
          cases this with | d _ _ h => exact hr h
        · rw [if_neg hc] at hj
          rw [if_neg (by omega)]
          obtain ⟨u, g1, g2⟩ := e6 k e hk j z hj
          exact ⟨u, g1, hr g2⟩
      · rw [List.getElem?_set_ne hik] at hi
        have hno : ¬ (k * sz + off ≤ i * sz + j ∧ i * sz + j < k * sz + off + m) := by
          rcases Nat.lt_or_ge i k with hlt | hge
          · have : (i + 1) * sz ≤ k * sz := Nat.mul_le_mul_right _ hlt
            rw [Nat.succ_mul] at this
            omega
          · have : (k + 1) * sz ≤ i * sz := Nat.mul_le_mul_right _ (by omega)
            rw [Nat.succ_mul] at this
            omega
        rw [if_neg hno]
        obtain ⟨u, g1, g2⟩ := e6 i e' hi j z hj
        exact ⟨u, g1, hr g2⟩
theorem LStep_storeEM {t m id n sz k off ety : Nat} {x y : Operand} {α : Type} {enc : α → List D} {l : List α} {c : α} {vs : List AV} {ds : List D} (ho : o.op = .store t x y) (hd : o.dst = none) (hm : T.size t = some m) (hx : evalA env x = .eptr id n sz k off) (hh : hget h id = some (.arr ety sz (l.map enc)))
    (hv : cellsA (evalA env y) = some vs) (hD : asDs vs = some ds) (hl : ds.length = m) (hn : (l.map enc).length = n) (hk : l[k]? = some c) (hfit : Nat.ble (off + m) sz = true) :
    LStep P O o env h [id] [] (.tup []) [(id, some (.arr ety sz ((l.map enc).set k (setsD (enc c) off ds))))] :=
  LStep_storeE ho hd hm hx hh hv hD hl hn (by rw [List.getElem?_map, hk]; rfl) (Nat.le_of_ble_eq_true hfit)
/-- slots and objects forgotten -/
theorem AW_drop {c : Code} (ks ids : List Nat) (H : AW P O c Q (dropE ks env) (dropH ids h)) : AW P O c Q env h := AW_weak H (lk_dropE ks env) (hget_dropH ids h)
/-! ### an object under another name -/
end
end Go.SL
