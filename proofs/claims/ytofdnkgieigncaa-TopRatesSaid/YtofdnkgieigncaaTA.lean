/- Ledgers whose accounts may all be overdrawn, paid from account to account: plain. -/
import Derived.Test.YtofdnkgieigncaaV4
namespace Go.Proofs.Ytofdnkgieigncaa
open Go.SL

def esumT (k : K2) (x : List Ent) : Int := (x.map fun e => if e.key = k then e.amt else 0).sum
theorem esumT_snoc (k : K2) (x : List Ent) (e : Ent) : esumT k (x ++ [e]) = esumT k x + (if e.key = k then e.amt else 0) := by simp [esumT]
theorem chg_esumT (k : K2) (x : List Ent) : (aget k (chgL x)).getD 0 = esumT k x := by
  induction x using list_snoc with
  | h0 => rfl
  | h1 l e ih =>
    rw [chgL_snoc, esumT_snoc, chgK, aget_put]
    by_cases h : (e.acct, e.cur) = k
    · have h' : e.key = k := h
      rw [if_pos h, if_pos h', h, ← ih]; rfl
    · have h' : ¬ e.key = k := h
      rw [if_neg h, if_neg h', ih]; omega
theorem esumT_in {x : List Ent} (h : ∀ e ∈ x, e.in40) (k : K2) : -(1099511627776 * (x.length : Int)) ≤ esumT k x ∧ esumT k x ≤ 1099511627776 * (x.length : Int) := by
  rw [← chg_esumT]
  exact chgL_in x h k
theorem addAccT {x : List Ent} {k : K2} {a : Acc} (hi : ∀ e ∈ x, e.in40) (hl : x.length ≤ 64) (hb : -4611686018427387904 ≤ a.bal ∧ a.bal ≤ 4611686018427387904) : (addAcc (chgL x) (fun _ => true) (k, a)).2 = ⟨a.floor, a.bal + esumT k x, a.held⟩ := by
  have he := esumT_in hi k
  have hc := chg_esumT k x
  unfold addAcc
  rw [if_pos rfl]
  dsimp only
  cases hq : aget k (chgL x) with
  | none =>
    rw [hq] at hc
    have : esumT k x = 0 := hc.symm
    rw [this]
    simp
  | some d =>
    rw [hq] at hc
    have : d = esumT k x := hc
    subst this
    dsimp only
    rw [wrp_fit (by omega)]
/-- floors as low as may be, nothing held, balances within B -/
structure Flat (A : List (K2 × Acc)) (B : Int) : Prop where
  nd : (akeys A).Nodup
  acc : ∀ k a, aget k A = some a → a.floor = -1099511627776 ∧ a.held = 0 ∧ -B ≤ a.bal ∧ a.bal ≤ B
theorem Flat.bal {A : List (K2 × Acc)} {B : Int} (h : Flat A B) (hB : 0 ≤ B) (k : K2) : -B ≤ balA A k ∧ balA A k ≤ B := by
  unfold balA
  cases hq : aget k A with
  | none => exact ⟨by show -B ≤ 0; omega, hB⟩
  | some a => exact (h.acc k a hq).2.2
theorem Flat.fr {A : List (K2 × Acc)} {B : Int} (h : Flat A B) (hB : B ≤ 1099511627776) {k : K2} (hk : aget k A ≠ none) : frA A k = balA A k + 1099511627776 := by
  unfold frA balA
  cases hq : aget k A with
  | none => exact absurd hq hk
  | some a =>
    obtain ⟨h1, h2, h3, h4⟩ := h.acc k a hq
    show wrp .i64 (wrp .i64 (a.bal - a.held) - a.floor) = a.bal + 1099511627776
    rw [h1, h2, wrp_fit (n := a.bal - 0) (by omega), wrp_fit (by omega)]
    omega
theorem enter_get {x : List Ent} {A : List (K2 × Acc)} {k : K2} {a : Acc} (hi : ∀ e ∈ x, e.in40) (hl : x.length ≤ 64) (hk : aget k A = some a) (hb : -4611686018427387904 ≤ a.bal ∧ a.bal ≤ 4611686018427387904) :
    aget k (enterA (chgL x) A) = some ⟨a.floor, a.bal + esumT k x, a.held⟩ := by
  unfold enterA
  rw [aget_map (addAcc_key _ _), hk, Option.map_some, addAccT hi hl hb]
theorem enter_none {x : List Ent} {A : List (K2 × Acc)} {k : K2} : aget k (enterA (chgL x) A) = none ↔ aget k A = none := by
  unfold enterA
  rw [aget_map (addAcc_key _ _), Option.map_eq_none_iff]
theorem enter_keys {x : List Ent} {A : List (K2 × Acc)} : akeys (enterA (chgL x) A) = akeys A := akeys_map (addAcc_key _ _) A
/-! ### from one account to another one -/
def payX (p q : K2) (x : Int) : List Ent := [⟨p.1, p.2, -x⟩, ⟨q.1, q.2, x⟩]
theorem chg_pay {p q : K2} (hpq : p ≠ q) (x : Int) : chgL (payX p q x) = [(p, -x), (q, x)] := by
  obtain ⟨p1, p2⟩ := p
  obtain ⟨q1, q2⟩ := q
  show aput (q1, q2) ((aget (q1, q2) [((p1, p2), (0 : Int) + -x)]).getD 0 + x) [((p1, p2), (0 : Int) + -x)] = _
  rw [aget, if_neg hpq, aput, if_neg hpq]
  simp [aget, aput]
theorem sum_pay {p q : K2} (hpq : p.2 = q.2) (x : Int) : sumL (payX p q x) = [(q.2, 0)] := by
  obtain ⟨p1, p2⟩ := p
  obtain ⟨q1, q2⟩ := q
  simp only at hpq
  subst hpq
  show aput p2 ((aget p2 [(p2, (0 : Int) + -x)]).getD 0 + x) [(p2, (0 : Int) + -x)] = _
  rw [aget, if_pos rfl, aput, if_pos rfl]
  simp
  omega
theorem esumT_pay (p q k : K2) (x : Int) : esumT k (payX p q x) = (if p = k then -x else 0) + (if q = k then x else 0) := by
  have e1 : (⟨p.1, p.2, -x⟩ : Ent).key = p := rfl
  have e2 : (⟨q.1, q.2, x⟩ : Ent).key = q := rfl
  simp [payX, esumT, e1, e2]
theorem pay_in {p q : K2} {x : Int} (h0 : 0 ≤ x) (h1 : x ≤ 1099511627776) : ∀ e ∈ payX p q x, e.in40 := by
  intro e he
  simp only [payX, List.mem_cons, List.not_mem_nil, or_false] at he
  rcases he with rfl | rfl
  · exact ⟨by show -1099511627776 ≤ -x; omega, by show -x ≤ 1099511627776; omega⟩
  · exact ⟨by show -1099511627776 ≤ x; omega, by show x ≤ 1099511627776; omega⟩
theorem Flat.ref {A : List (K2 × Acc)} {B : Int} (h : Flat A B) (h0 : 0 ≤ B) {p q : K2} (hp : aget p A ≠ none) (hq : aget q A ≠ none) (hpq : p ≠ q) (h2 : p.2 = q.2) {x : Int} (hx : 0 ≤ x) (hb : B + x ≤ 1099511627776) : refS A (payX p q x) = 0 := by
  have m1 : (payX p q x).any (miss A) = false := by
    have e1 : (⟨p.1, p.2, -x⟩ : Ent).key = p := rfl
    have e2 : (⟨q.1, q.2, x⟩ : Ent).key = q := rfl
    simp only [payX, miss, List.any_cons, List.any_nil, Bool.or_false, Bool.or_eq_false_iff, e1, e2]
    constructor
    · cases hq' : aget p A with
      | none => exact absurd hq' hp
      | some _ => rfl
    · cases hq' : aget q A with
      | none => exact absurd hq' hq
      | some _ => rfl
  have m2 : (payX p q x).any wide = false := by
    simp only [payX, wide, List.any_cons, List.any_nil, Bool.or_false, Bool.or_eq_false_iff, decide_eq_false_iff_not]
    constructor <;> omega
  have m3 : (sumL (payX p q x)).any off0 = false := by rw [sum_pay h2]; simp [off0]
  have b1 := h.bal h0 p
  have b2 := h.bal h0 q
  have w1 : wrp .i64 (balA A p + -x) = balA A p + -x := wrp_fit (by omega)
  have w2 : wrp .i64 (balA A q + x) = balA A q + x := wrp_fit (by omega)
  have m4 : (chgL (payX p q x)).any (over A) = false := by
    rw [chg_pay hpq]
    simp only [over, List.any_cons, List.any_nil, Bool.or_false, Bool.or_eq_false_iff, decide_eq_false_iff_not, w1, w2]
    constructor <;> omega
  have f1 := h.fr (by omega) hp
  have m5 : (chgL (payX p q x)).any (lackA A) = false := by
    rw [chg_pay hpq]
    simp only [lackA, List.any_cons, List.any_nil, Bool.or_false, Bool.or_eq_false_iff, decide_eq_false_iff_not, f1]
    constructor <;> omega
  rw [refS, m1, m2, m3, m4, m5]
  simp
theorem Flat.enter {A : List (K2 × Acc)} {B : Int} (h : Flat A B) (h0 : 0 ≤ B) {p q : K2} (hpq : p ≠ q) {x : Int} (hx : 0 ≤ x) (hb : B + x ≤ 1099511627776) : Flat (enterA (chgL (payX p q x)) A) (B + x) := by
  refine ⟨by rw [enter_keys]; exact h.nd, fun k a hk => ?_⟩
  cases hq : aget k A with
  | none => rw [enter_none.2 hq] at hk; cases hk
  | some b =>
    obtain ⟨h1, h2, h3, h4⟩ := h.acc k b hq
    rw [enter_get (pay_in hx (by omega)) (by simp [payX]) hq (by omega)] at hk
    cases hk
    have he := esumT_pay p q k x
    refine ⟨h1, h2, ?_, ?_⟩
    · show -(B + x) ≤ b.bal + esumT k (payX p q x)
      rw [he]
      split <;> split <;> omega
    · show b.bal + esumT k (payX p q x) ≤ B + x
      rw [he]
      split <;> split <;> omega
theorem Flat.post {s : Led} {B : Int} (h : Flat s.A B) (h0 : 0 ≤ B) {p q : K2} (hp : aget p s.A ≠ none) (hq : aget q s.A ≠ none) (hpq : p ≠ q) (h2 : p.2 = q.2) {x : Int} (hx : 0 ≤ x) (hb : B + x ≤ 1099511627776) (t : ByteArray) (ht : t.size ≤ 4096) (hP : s.P.length < 4096) :
    postE s t (payX p q x) = 0 := by
  rw [postE, if_neg (by simp [payX]; omega), if_neg (by omega), h.ref h0 hp hq hpq h2 hx hb]
theorem Flat.less {A : List (K2 × Acc)} {B C : Int} (h : Flat A B) (hBC : B ≤ C) : Flat A C := ⟨h.nd, fun k a hk => by have := h.acc k a hk; omega⟩
end Go.Proofs.Ytofdnkgieigncaa
