/- The layer 'SL': own rows by index: read, and written in place; an object under another name. -/
import Derived.Test.YtnalpielhpmnfaaSm
namespace Go.SL
open Go.RowKit
section
variable {P : Program} {O : Org} {T : Tab P} {Q : Exit → Env → Hp → Prop} {env : Env} {h : Hp} {o : Oper}

/-- an own row that is not empty: its block -/
theorem row_block {w : World} {X : Nat → Prop} {G : Ctx} {id ety sz : Nat} {es : List (List D)} (ho : ObjRep w X G id (.arr ety sz es)) (hn : 0 < es.length) :
    ∃ g cap cur, G.m id = .slice (some ⟨g, 0, none⟩) es.length cap ∧ w.heap[g]? = some (.cells cur ety (0, 0)) ∧ es.length ≤ cap ∧ cap ≤ maxLen ∧ cur.size = cap * sz ∧
      ∀ (i : Nat) (e : List D), es[i]? = some e → ∀ (j : Nat) (x : D), e[j]? = some x → ∃ v, cur[i * sz + j]? = some v ∧ RepD w X x v := by
  obtain ⟨_, _, _, xs, hown, h5⟩ := ho
  rcases hown.2 with ⟨_, e2⟩ | ⟨g, cap, cur, e1, _, e3, e4, e5, e6, e7⟩
  · omega
  · refine ⟨g, cap, cur, e1, e3, e4, e5, e6, fun i e hi j x hj => ?_⟩
    obtain ⟨v, a1, a2⟩ := h5 i e hi j x hj
    refine ⟨v, ?_, a2⟩
    rw [← e7, List.getElem?_take] at a1
    split at a1
    · rw [Array.getElem?_toList] at a1; exact a1
    · cases a1
theorem LStep_indexOwn {t e sz id n ety : Nat} {x i : Operand} {es : List (List D)} {kd : IntKind} {k : Int} (ho : o.op = .indexAddr t x i) (hT : T.desc t = some (.slice e)) (hS : T.size e = some sz) (hx : evalA env x = .own id n) (hi : evalA env i = .d (.sc (.int kd k)))
    (hh : hget h id = some (.arr ety sz es)) (hd : dstOk o.dst O.nt = true) (hn : es.length = n) (hk : 0 ≤ k) (hkn : k < (es.length : Nat)) : LStep P O o env h [id] [] (.eptr id n sz k.toNat 0) [] := by
  refine .quiet hd (fun env' h' he ht a w G r => ?_)
  have h1 := evalA_rep r.env x
  have h2 := evalA_rep r.env i
  rw [he x (by simp [ho, Op.operands]), hx] at h1
  rw [he i (by simp [ho, Op.operands]), hi] at h2
  have hob := r.obj id _ ((ht id (by simp)).trans hh)
  obtain ⟨g, cap, cur, e1, e2, _⟩ := row_block hob (by omega)
  generalize hv : a.eval x = v at h1
  cases h1 with
  | own _ _ _ _ hle hm hvv =>
    have e := hvv (by rw [hob.1, hn])
    subst e
    rw [e1] at hv
    refine ⟨.pointer (some ⟨g, k.toNat * sz + 0, none⟩), ?_, .eptr id n sz k.toNat 0 _ rfl hle hm (fun _ => ⟨g, cap, by rw [e1, hn], rfl⟩)⟩
    simp [execOp, ho, hv, h2.sc_inv, Instr.indexAt, asIntOf, run_underlying (T.desc_ok hT), run_size T hS, Addr.add_lit, show 0 ≤ k ∧ k < (es.length : Int) from ⟨hk, hkn⟩]
theorem LStep_loadE {t id n sz k off ety : Nat} {x : Operand} {es : List (List D)} {e : List D} {c : D} (ho : o.op = .load t x) (ha : T.agg t = some false) (hx : evalA env x = .eptr id n sz k off) (hh : hget h id = some (.arr ety sz es)) (hd : dstOk o.dst O.nt = true)
    (hn : es.length = n) (hk : es[k]? = some e) (hc : e[off]? = some c) : LStep P O o env h [id] [] (.d c) [] := by
  refine .quiet hd (fun env' h' he ht a w G r => ?_)
  have h1 := evalA_rep r.env x
  rw [he x (by simp [ho, Op.operands]), hx] at h1
  have hob := r.obj id _ ((ht id (by simp)).trans hh)
  obtain ⟨g, cap, cur, e1, e2, _, _, _, e6⟩ := row_block hob (by have := (List.getElem?_eq_some_iff.1 hk).1; omega)
  generalize hv : a.eval x = v at h1
  cases h1 with
  | eptr _ _ _ _ _ _ h1 hle hm hvv =>
    obtain ⟨b, c', f1, rfl⟩ := hvv (by rw [hob.1, hn])
    obtain rfl : g = b := by rw [e1] at f1; cases f1; rfl
    obtain ⟨u, g1, g2⟩ := e6 k e hk off c hc
    exact ⟨u, by simp [execOp, ho, hv, Instr.loadAt, Instr.sureAddr, run_loadVar1 T ha (show w.cell? ⟨g, k * sz + off, none⟩ = some u by rw [cell_of_row w g (k * sz + off) cur ety (0, 0) e2, g1])], .d _ _ g2⟩
theorem LStep_indexOwnM {t e sz id n ety : Nat} {x i : Operand} {es : List (List D)} {kd : IntKind} {k : Nat} (ho : o.op = .indexAddr t x i) (hT : T.desc t = some (.slice e)) (hS : T.size e = some sz) (hx : evalA env x = .own id n) (hi : evalA env i = .d (.sc (.int kd (k : Nat))))
    (hh : hget h id = some (.arr ety sz es)) (hd : dstOk o.dst O.nt = true) (hn : es.length = n) (hkn : k < es.length) : LStep P O o env h [id] [] (.eptr id n sz k 0) [] := by
  have := LStep_indexOwn (k := (k : Int)) ho hT hS hx hi hh hd hn (by omega) (by omega)
  rwa [Int.toNat_natCast] at this
theorem LStep_loadEM {t id n sz k off ety : Nat} {x : Operand} {α : Type} {enc : α → List D} {l : List α} {c : α} {d : D} (ho : o.op = .load t x) (ha : T.agg t = some false) (hx : evalA env x = .eptr id n sz k off) (hh : hget h id = some (.arr ety sz (l.map enc))) (hd : dstOk o.dst O.nt = true)
    (hn : (l.map enc).length = n) (hk : l[k]? = some c) (hc : (enc c)[off]? = some d) : LStep P O o env h [id] [] (.d d) [] :=
  LStep_loadE ho ha hx hh hd hn (e := enc c) (by rw [List.getElem?_map, hk]; rfl) hc
/-! ### a store into an own row's element -/
/-! ### an object under another name -/
end
end Go.SL
