import Derived.Test.YtfgmnhlopgaanaaW1
namespace Go.Proofs.Ytfgmnhlopgaanaa
open Go.SL

/-! ### a ledger of two accounts, between which is paid -/
def pA (p q : K2) (S : Int) : List (K2 × Acc) := [(p, ⟨-1099511627776, -S, 0⟩), (q, ⟨0, S, 0⟩)]
def pX (p q : K2) (x : Int) : List Ent := [⟨p.1, p.2, -x⟩, ⟨q.1, q.2, x⟩]
theorem chg_pair {p q : K2} (hpq : p ≠ q) (x : Int) : chgL (pX p q x) = [(p, -x), (q, x)] := by
  obtain ⟨p1, p2⟩ := p
  obtain ⟨q1, q2⟩ := q
  show aput (q1, q2) ((aget (q1, q2) [((p1, p2), (0 : Int) + -x)]).getD 0 + x) [((p1, p2), (0 : Int) + -x)] = _
  rw [aget, if_neg hpq, aput, if_neg hpq]
  simp [aget, aput]
theorem sum_pair {p q : K2} (hpq : p.2 = q.2) (x : Int) : sumL (pX p q x) = [(q.2, 0)] := by
  obtain ⟨p1, p2⟩ := p
  obtain ⟨q1, q2⟩ := q
  simp only at hpq
  subst hpq
  show aput p2 ((aget p2 [(p2, (0 : Int) + -x)]).getD 0 + x) [(p2, (0 : Int) + -x)] = _
  rw [aget, if_pos rfl, aput, if_pos rfl]
  simp
  omega
theorem ref_pair {p q : K2} (hpq : p ≠ q) (h2 : p.2 = q.2) {S x : Int} (hS : 0 ≤ S) (hx : 0 < x) (hb : S + x ≤ 1099511627776) : refS (pA p q S) (pX p q x) = 0 := by
  have hqp : ¬ q = p := fun e => hpq e.symm
  have g1 : aget p (pA p q S) = some ⟨-1099511627776, -S, 0⟩ := by simp [pA, aget]
  have g2 : aget q (pA p q S) = some ⟨0, S, 0⟩ := by simp [pA, aget, hpq]
  have m1 : (pX p q x).any (miss (pA p q S)) = false := by
    have e1 : (⟨p.1, p.2, -x⟩ : Ent).key = p := rfl
    have e2 : (⟨q.1, q.2, x⟩ : Ent).key = q := rfl
    simp [pX, miss, e1, e2, g1, g2]
  have m2 : (pX p q x).any wide = false := by
    simp only [pX, wide, List.any_cons, List.any_nil, Bool.or_false, Bool.or_eq_false_iff, decide_eq_false_iff_not]
    constructor <;> omega
  have m3 : (sumL (pX p q x)).any off0 = false := by rw [sum_pair h2]; simp [off0]
  have b1 : balA (pA p q S) p = -S := by unfold balA; rw [g1]; rfl
  have b2 : balA (pA p q S) q = S := by unfold balA; rw [g2]; rfl
  have w1 : wrp .i64 (-S + -x) = -S + -x := wrp_fit (by omega)
  have w2 : wrp .i64 (S + x) = S + x := wrp_fit (by omega)
  have m4 : (chgL (pX p q x)).any (over (pA p q S)) = false := by
    rw [chg_pair hpq]
    simp only [over, List.any_cons, List.any_nil, Bool.or_false, Bool.or_eq_false_iff, decide_eq_false_iff_not, b1, b2, w1, w2]
    constructor <;> omega
  have f1 : frA (pA p q S) p = -S + 1099511627776 := by
    unfold frA
    rw [g1]
    show wrp .i64 (wrp .i64 (-S - 0) - -1099511627776) = _
    rw [wrp_fit (n := -S - 0) (by omega), wrp_fit (by omega)]
    omega
  have m5 : (chgL (pX p q x)).any (lackA (pA p q S)) = false := by
    rw [chg_pair hpq]
    simp only [lackA, List.any_cons, List.any_nil, Bool.or_false, Bool.or_eq_false_iff, decide_eq_false_iff_not, f1]
    constructor <;> omega
  rw [refS, m1, m2, m3, m4, m5]
  simp
theorem enter_pair {p q : K2} (hpq : p ≠ q) {S x : Int} (hS : 0 ≤ S) (hx : 0 < x) (hb : S + x ≤ 1099511627776) : enterA (chgL (pX p q x)) (pA p q S) = pA p q (S + x) := by
  have hqp : ¬ q = p := fun e => hpq e.symm
  have w1 : wrp .i64 (-S + -x) = -(S + x) := by rw [wrp_fit (by omega)]; omega
  have w2 : wrp .i64 (S + x) = S + x := wrp_fit (by omega)
  rw [chg_pair hpq]
  simp [enterA, pA, addAcc, aget, hpq, w1, w2]
theorem bal_pair1 {s : Led} {p q : K2} {S : Int} (h : s.A = pA p q S) : balS s p = -S := by unfold balS; rw [h]; simp [pA, aget]
theorem bal_pair2 {s : Led} {p q : K2} {S : Int} (hpq : p ≠ q) (h : s.A = pA p q S) : balS s q = S := by unfold balS; rw [h]; simp [pA, aget, hpq]
theorem bal_pair0 {s : Led} {p q k : K2} {S : Int} (h1 : p ≠ k) (h2 : q ≠ k) (h : s.A = pA p q S) : balS s k = 0 := by unfold balS; rw [h]; simp [pA, aget, h1, h2]
theorem keys_pair {p q : K2} (hpq : p ≠ q) (S : Int) : (akeys (pA p q S)).Nodup := by simp [pA, akeys, hpq]
theorem post_pair {s : Led} {p q : K2} (hpq : p ≠ q) (h2 : p.2 = q.2) {S x : Int} (h : s.A = pA p q S) (t : ByteArray) (ht : t.size ≤ 4096) (hP : s.P.length < 4096) (hS : 0 ≤ S) (hx : 0 < x) (hb : S + x ≤ 1099511627776) : postE s t (pX p q x) = 0 := by
  rw [postE, if_neg (by simp [pX]; omega), if_neg (by omega), h, ref_pair hpq h2 hS hx hb]
def bEUR : ByteArray := ⟨#[69, 85, 82]⟩
def bUSD : ByteArray := ⟨#[85, 83, 68]⟩
def kY : K2 := (⟨#[121]⟩, bEUR)
def kV : K2 := (⟨#[118, 111, 115, 116, 114, 111, 58, 98]⟩, bEUR)
def kN : K2 := (⟨#[110, 111, 115, 116, 114, 111, 58, 97]⟩, bEUR)
def kS : K2 := (⟨#[115]⟩, bEUR)
def l0 : Led := ⟨[], [], []⟩
theorem open1 : openS l0 kY.1 bEUR (-1099511627776) = (⟨[(kY, ⟨-1099511627776, 0, 0⟩)], [], []⟩, 0) := by kernel_rfl
theorem open2 : openS ⟨[(kY, ⟨-1099511627776, 0, 0⟩)], [], []⟩ kV.1 bEUR 0 = (⟨[(kY, ⟨-1099511627776, 0, 0⟩), (kV, ⟨0, 0, 0⟩)], [], []⟩, 0) := by kernel_rfl
theorem open3 : openS l0 kN.1 bEUR (-1099511627776) = (⟨[(kN, ⟨-1099511627776, 0, 0⟩)], [], []⟩, 0) := by kernel_rfl
theorem open4 : openS ⟨[(kN, ⟨-1099511627776, 0, 0⟩)], [], []⟩ kS.1 bEUR 0 = (⟨[(kN, ⟨-1099511627776, 0, 0⟩), (kS, ⟨0, 0, 0⟩)], [], []⟩, 0) := by kernel_rfl
theorem kYV : kY ≠ kV := of_decide_eq_true (by kernel_rfl)
theorem kNS : kN ≠ kS := of_decide_eq_true (by kernel_rfl)
end Go.Proofs.Ytfgmnhlopgaanaa
