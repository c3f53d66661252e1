/- The layer 'SL': a part of an own row; min and max. -/
import Derived.Test.YtbekoielblcbmaaSu
import Derived.Test.YtbekoielblcbmaaSk
namespace Go.SL
open Go.RowKit
section
variable {P : Program} {O : Org} {T : Tab P} {Q : Exit → Env → Hp → Prop} {env : Env} {h : Hp} {o : Oper}
/-! ### min, max -/
def minI (a b : Int) : Int := if b < a then b else a
def maxI (a b : Int) : Int := if b > a then b else a
theorem LStep_min {ts : Array Nat} {x y : Operand} {k : IntKind} {m n q : Int} (ho : o.op = .call { callee := .builtin .min, args := #[x, y], argTypes := ts }) (hd : dstOk o.dst O.nt = true) (hx : evalA env x = .d (.sc (.int k m))) (hy : evalA env y = .d (.sc (.int k n))) (hq : minI m n = q) :
    LStep P O o env h [] [] (.d (.sc (.int k q))) [] := by
  refine .quiet hd (fun env' h' he _ a w G r => ⟨.int k q, ?_, .d _ _ (.sc _ rfl)⟩)
  have h1 := evalA_rep r.env x
  have h2 := evalA_rep r.env y
  rw [he x (by simp [ho, Op.operands, Call.operands]), hx] at h1
  rw [he y (by simp [ho, Op.operands, Call.operands]), hy] at h2
  subst hq
  simp [execOp, ho, resolve, invoke, builtin, Builtin.min_, Builtin.min2, h1.sc_inv, h2.sc_inv, minI]
theorem LStep_max {ts : Array Nat} {x y : Operand} {k : IntKind} {m n q : Int} (ho : o.op = .call { callee := .builtin .max, args := #[x, y], argTypes := ts }) (hd : dstOk o.dst O.nt = true) (hx : evalA env x = .d (.sc (.int k m))) (hy : evalA env y = .d (.sc (.int k n))) (hq : maxI m n = q) :
    LStep P O o env h [] [] (.d (.sc (.int k q))) [] := by
  refine .quiet hd (fun env' h' he _ a w G r => ⟨.int k q, ?_, .d _ _ (.sc _ rfl)⟩)
  have h1 := evalA_rep r.env x
  have h2 := evalA_rep r.env y
  rw [he x (by simp [ho, Op.operands, Call.operands]), hx] at h1
  rw [he y (by simp [ho, Op.operands, Call.operands]), hy] at h2
  subst hq
  simp [execOp, ho, resolve, invoke, builtin, Builtin.max_, Builtin.max2, h1.sc_inv, h2.sc_inv, maxI]
/-! ### a part of an own row -/
theorem LStep_partOwn {t e sz id n ety : Nat} {x : Operand} {lo hi : Option Operand} {es : List (List D)} {l q : Int} (ho : o.op = .slice t x lo hi none) (hT : T.desc t = some (.slice e)) (hS : T.size e = some sz)
    (hx : evalA env x = .own id n) (hh : hget h id = some (.arr ety sz es)) (hl : loOf env lo = some l) (hq : hiOf env n hi = some q) (hd : dstOk o.dst O.nt = true) (hn : es.length = n) (h0 : 0 ≤ l) (h1 : l ≤ q) (h2 : q ≤ (es.length : Nat)) :
    LStep P O o env h [id] [] (.part id n sz l.toNat (q.toNat - l.toNat)) [] := by
  refine .quiet hd (fun env' h' he ht a w G r => ?_)
  have g1 := evalA_rep r.env x
  rw [he x (by cases lo <;> cases hi <;> simp [ho, Op.operands]), hx] at g1
  have hob := r.obj id _ ((ht id (by simp)).trans hh)
  have glo : ∀ y, lo = some y → ∃ kd, a.eval y = .int kd l := by
    intro y hy
    subst hy
    have g2 := evalA_rep r.env y
    rw [he y (by cases hi <;> simp [ho, Op.operands])] at g2
    unfold loOf at hl
    simp only at hl
    split at hl
    · rename_i kd k hk
      rw [hk] at g2
      cases hl
      exact ⟨kd, g2.sc_inv⟩
    · cases hl
  have ghi : ∀ y, hi = some y → ∃ kd, a.eval y = .int kd q := by
    intro y hy
    subst hy
    have g2 := evalA_rep r.env y
    rw [he y (by cases lo <;> simp [ho, Op.operands])] at g2
    unfold hiOf at hq
    simp only at hq
    split at hq
    · rename_i kd k hk
      rw [hk] at g2
      cases hq
      exact ⟨kd, g2.sc_inv⟩
    · cases hq
  have hhi : hi = none → q = n := fun e => by subst e; unfold hiOf at hq; cases hq; rfl
  have hlo : lo = none → l = 0 := fun e => by subst e; unfold loOf at hl; cases hl; rfl
  generalize hv : a.eval x = v at g1
  cases g1 with
  | own _ _ _ _ hle hm hvv =>
    have e := hvv (by rw [hob.1, hn])
    subst e
    obtain ⟨A, m, c, hA⟩ := hm
    have hmn : m = n ∧ n ≤ c := by
      obtain ⟨_, _, _, xs, hown, _⟩ := hob
      rcases hown.2 with ⟨e1, e2⟩ | ⟨g, cap, cur, e1, _, _, e3, _⟩
      · rw [hA] at e1; cases e1; exact ⟨by omega, by omega⟩
      · rw [hA] at e1; cases e1; exact ⟨hn, by omega⟩
    obtain ⟨rfl, hc⟩ := hmn
    rw [hA] at hv
    have hb : (Instr.sliceBounds true m c (lo.map a.eval) (hi.map a.eval) none).run P w = .ok (l.toNat, q.toNat, c) w := by
      cases hi with
      | none =>
        have e1 := hhi rfl
        cases lo with
        | none =>
          have e2 := hlo rfl
          subst e2
          simp [Instr.sliceBounds, e1]
        | some y =>
          obtain ⟨kd, e2⟩ := glo y rfl
          simp [Instr.sliceBounds, bound_run e2 h0 (show l ≤ (m : Int) by omega), e1]
      | some z =>
        obtain ⟨kd', e1⟩ := ghi z rfl
        cases lo with
        | none =>
          have e2 := hlo rfl
          subst e2
          simp [Instr.sliceBounds, bound_run e1 (show 0 ≤ q by omega) (show q ≤ (c : Int) by omega)]
        | some y =>
          obtain ⟨kd, e2⟩ := glo y rfl
          simp [Instr.sliceBounds, bound_run e1 (show 0 ≤ q by omega) (show q ≤ (c : Int) by omega), bound_run e2 h0 (show l ≤ (q.toNat : Int) by omega)]
    have hu : P.underlying t = some (.slice e) := T.desc_ok hT
    refine ⟨.slice (if c = l.toNat then A else A.map (·.add (l.toNat * sz))) (q.toNat - l.toNat) (c - l.toNat), ?_, .part _ _ _ _ _ _ rfl (by rw [hob.1, hn]; exact Nat.le_refl _) ⟨A, m, c, hA⟩ (fun _ => ⟨_, _, rfl, by omega, fun hk => ?_⟩)⟩
    · simp [execOp, ho, hv, Instr.sliceAt, Instr.slice, run_underlying hu, hb, run_size T hS]
    · obtain ⟨g, cap, cur, e1, _⟩ := row_block hob (by omega)
      rw [hA] at e1
      cases e1
      refine ⟨g, c, by rw [hA], ?_⟩
      rw [if_neg (by omega), Option.map_some, Addr.add_lit, Nat.zero_add]
theorem LStep_lenPart {t id n e sz lo k : Nat} {x : Operand} {ety sz' : Nat} {es : List (List D)} (hd : dstOk o.dst O.nt = true) (ho : o.op = .call { callee := .builtin .len, args := #[x], argTypes := #[t] })
    (hT : T.desc t = some (.slice e)) (hx : evalA env x = .part id n sz lo k) (hh : hget h id = some (.arr ety sz' es)) (hn : es.length = n) : LStep P O o env h [id] [] (.d (.sc (.int .i64 k))) [] := by
  refine .quiet hd (fun env' h' he ht a w G r => ⟨.int .i64 k, ?_, .d _ _ (.sc _ rfl)⟩)
  have h1 := evalA_rep r.env x
  rw [he x (by simp [ho, Op.operands, Call.operands]), hx] at h1
  have hob := r.obj id _ ((ht id (by simp)).trans hh)
  generalize hv : a.eval x = v at h1
  cases h1 with
  | part _ _ _ _ _ _ _ _ _ hvv =>
    obtain ⟨A, c, rfl, _⟩ := hvv (by rw [hob.1, hn])
    simp [execOp, ho, resolve, invoke, builtin, Builtin.len_, run_underlying (T.desc_ok hT), hv, goInt]
theorem LStep_indexPart {t e sz id n ety lo m : Nat} {x i : Operand} {es : List (List D)} {kd : IntKind} {k : Int} (ho : o.op = .indexAddr t x i) (hT : T.desc t = some (.slice e)) (hS : T.size e = some sz) (hx : evalA env x = .part id n sz lo m) (hi : evalA env i = .d (.sc (.int kd k)))
    (hh : hget h id = some (.arr ety sz es)) (hd : dstOk o.dst O.nt = true) (hn : es.length = n) (hk : 0 ≤ k) (hkn : k < (m : Nat)) : LStep P O o env h [id] [] (.eptr id n sz (lo + k.toNat) 0) [] := by
  refine .quiet hd (fun env' h' he ht a w G r => ?_)
  have h1 := evalA_rep r.env x
  have h2 := evalA_rep r.env i
  rw [he x (by simp [ho, Op.operands]), hx] at h1
  rw [he i (by simp [ho, Op.operands]), hi] at h2
  have hob := r.obj id _ ((ht id (by simp)).trans hh)
  generalize hv : a.eval x = v at h1
  cases h1 with
  | part _ _ _ _ _ _ _ hle hm hvv =>
    obtain ⟨A, c, rfl, hc, hb⟩ := hvv (by rw [hob.1, hn])
    obtain ⟨b, cc, e1, rfl⟩ := hb (by omega)
    refine ⟨.pointer (some ⟨b, (lo + k.toNat) * sz + 0, none⟩), ?_, .eptr id n sz (lo + k.toNat) 0 _ rfl hle hm (fun _ => ⟨b, cc, e1, rfl⟩)⟩
    simp [execOp, ho, hv, h2.sc_inv, Instr.indexAt, asIntOf, run_underlying (T.desc_ok hT), run_size T hS, Addr.add_lit, show 0 ≤ k ∧ k < (m : Int) from ⟨hk, hkn⟩, Nat.add_mul]
theorem LStep_indexPartM {t e sz id n ety lo m : Nat} {x i : Operand} {es : List (List D)} {kd : IntKind} {k : Nat} (ho : o.op = .indexAddr t x i) (hT : T.desc t = some (.slice e)) (hS : T.size e = some sz) (hx : evalA env x = .part id n sz lo m) (hi : evalA env i = .d (.sc (.int kd (k : Nat))))
    (hh : hget h id = some (.arr ety sz es)) (hd : dstOk o.dst O.nt = true) (hn : es.length = n) (hkn : k < m) : LStep P O o env h [id] [] (.eptr id n sz (lo + k) 0) [] := by
  have := LStep_indexPart (k := (k : Int)) ho hT hS hx hi hh hd hn (by omega) (by omega)
  rwa [Int.toNat_natCast] at this
theorem LStep_partOwnTo {t e sz id n ety q : Nat} {x : Operand} {hi : Option Operand} {es : List (List D)} (ho : o.op = .slice t x none hi none) (hT : T.desc t = some (.slice e)) (hS : T.size e = some sz)
    (hx : evalA env x = .own id n) (hh : hget h id = some (.arr ety sz es)) (hq : hiOf env n hi = some (q : Int)) (hd : dstOk o.dst O.nt = true) (hn : es.length = n) (h2 : q ≤ es.length) :
    LStep P O o env h [id] [] (.part id n sz 0 q) [] :=
  LStep_partOwn (l := 0) (q := (q : Int)) ho hT hS hx hh rfl hq hd hn (by omega) (by omega) (by omega)
theorem LStep_indexPart0 {t e sz id n ety m : Nat} {x i : Operand} {es : List (List D)} {kd : IntKind} {k : Nat} (ho : o.op = .indexAddr t x i) (hT : T.desc t = some (.slice e)) (hS : T.size e = some sz) (hx : evalA env x = .part id n sz 0 m) (hi : evalA env i = .d (.sc (.int kd (k : Nat))))
    (hh : hget h id = some (.arr ety sz es)) (hd : dstOk o.dst O.nt = true) (hn : es.length = n) (hkn : k < m) : LStep P O o env h [id] [] (.eptr id n sz k 0) [] := by
  have := LStep_indexPartM ho hT hS hx hi hh hd hn hkn
  rwa [Nat.zero_add] at this
theorem LStep_loadEAM {t m id n sz k off ety : Nat} {x : Operand} {α : Type} {enc : α → List D} {l : List α} {c : α} {cs : List AV} (ho : o.op = .load t x) (ha : T.agg t = some true) (hm : T.size t = some m) (hx : evalA env x = .eptr id n sz k off) (hh : hget h id = some (.arr ety sz (l.map enc))) (hd : dstOk o.dst O.nt = true)
    (hn : (l.map enc).length = n) (hk : l[k]? = some c) (hc : Nat.ble (off + m) (enc c).length = true) (hcs : (((enc c).drop off).take m).map .d = cs) : LStep P O o env h [id] [] (.agg cs) [] := by
  subst hcs
  exact LStep_loadEA ho ha hm hx hh hd hn (e := enc c) (by rw [List.getElem?_map, hk]; rfl) (Nat.le_of_ble_eq_true hc)
end
end Go.SL
