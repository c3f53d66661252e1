import Derived.Test.YtofdnkgieigncaaGreatTf
import Derived.Test.YtofdnkgieigncaaGreatTk
import Derived.Test.YtofdnkgieigncaaGreatSq
import Derived.Test.YtofdnkgieigncaaGreatPl
import Derived.Test.YtofdnkgieigncaaGreatTab
import Derived.Test.YtofdnkgieigncaaGreatH2
namespace Go.SL
/-! ### the quotient's digit, by Knuth: plain -/
structure KInv (a d y1 y0 q r : Nat) : Prop where
  sum : q * y1 + r = a
  big : (a * 4294967296 + d) / (y1 * 4294967296 + y0) ≤ q
  small : q ≤ 4294967297
  rest : r < 4294967296
structure KIn (a d y1 y0 : Nat) : Prop where
  hd : d < 4294967296
  hy0 : y0 < 4294967296
  hy1 : 2147483648 ≤ y1
  hy1' : y1 < 4294967296
  ha : a < y1 * 4294967296 + y0
section
variable {a d y1 y0 q r : Nat}
theorem k_mul (q y1 y0 : Nat) : q * (y1 * 4294967296 + y0) = q * y1 * 4294967296 + q * y0 := by rw [Nat.mul_add, Nat.mul_assoc]
theorem KIn.lt (h : KIn a d y1 y0) : (a * 4294967296 + d) / (y1 * 4294967296 + y0) < 4294967296 := by
  obtain ⟨hd, hy0, hy1, hy1', ha⟩ := h
  refine (Nat.div_lt_iff_lt_mul (by omega)).2 ?_
  omega
theorem KInv.over (h : KIn a d y1 y0) (k : KInv a d y1 y0 q r) (hc : 4294967296 ≤ q ∨ 4294967296 * r + d < q * y0) : (a * 4294967296 + d) / (y1 * 4294967296 + y0) < q := by
  have hl := h.lt
  obtain ⟨hd, hy0, hy1, hy1', ha⟩ := h
  obtain ⟨h1, h2, h3, h4⟩ := k
  rcases hc with hc | hc
  · omega
  · refine (Nat.div_lt_iff_lt_mul (by omega)).2 ?_
    rw [k_mul]
    generalize q * y1 = p at *
    generalize q * y0 = z at *
    omega
theorem KInv.step (h : KIn a d y1 y0) (k : KInv a d y1 y0 q r) (hc : 4294967296 ≤ q ∨ 4294967296 * r + d < q * y0) (hr : r + y1 < 4294967296) : KInv a d y1 y0 (q - 1) (r + y1) := by
  have ho := k.over h hc
  obtain ⟨h1, h2, h3, h4⟩ := k
  obtain ⟨q', rfl⟩ : ∃ q', q = q' + 1 := ⟨q - 1, by have := Nat.lt_of_le_of_lt (Nat.zero_le _) ho; omega⟩
  rw [Nat.add_mul, Nat.one_mul] at h1
  exact ⟨by rw [Nat.add_sub_cancel]; omega, by omega, by omega, hr⟩
/-- what is left behind a digit -/
theorem KIn.left (h : KIn a d y1 y0) : ∃ r, r < y1 * 4294967296 + y0 ∧ (a * 4294967296 + d) = (a * 4294967296 + d) / (y1 * 4294967296 + y0) * (y1 * 4294967296 + y0) + r ∧ r = (a * 4294967296 + d) % (y1 * 4294967296 + y0) := by
  obtain ⟨hd, hy0, hy1, hy1', ha⟩ := h
  refine ⟨_, Nat.mod_lt _ (by omega), ?_, rfl⟩
  have h := Nat.div_add_mod (a * 4294967296 + d) (y1 * 4294967296 + y0)
  rw [Nat.mul_comm (y1 * 4294967296 + y0)] at h
  exact h.symm
/-- two digits, one behind the other -/
theorem two_digits {a d e y : Nat} (hy : 0 < y) : (a * 4294967296 * 4294967296 + d * 4294967296 + e) / y = (a * 4294967296 + d) / y * 4294967296 + ((a * 4294967296 + d) % y * 4294967296 + e) / y
    ∧ (a * 4294967296 * 4294967296 + d * 4294967296 + e) % y = ((a * 4294967296 + d) % y * 4294967296 + e) % y := by
  have e1 : a * 4294967296 * 4294967296 + d * 4294967296 + e = ((a * 4294967296 + d) % y * 4294967296 + e) + y * ((a * 4294967296 + d) / y * 4294967296) := by
    have h := Nat.div_add_mod (a * 4294967296 + d) y
    have h2 : y * ((a * 4294967296 + d) / y * 4294967296) = y * ((a * 4294967296 + d) / y) * 4294967296 := by rw [Nat.mul_assoc]
    rw [h2]
    generalize (a * 4294967296 + d) % y = m at *
    generalize y * ((a * 4294967296 + d) / y) = p at *
    omega
  rw [e1, Nat.add_mul_div_left _ _ hy, Nat.add_mul_mod_self_left]
  exact ⟨by omega, rfl⟩
end
/-! ### numbers of 64 bits without a sign -/
section
variable {P : Program} {O : Org} {o : Oper} {env : Env} {h : Hp}
theorem LStep_quo {t yt : Nat} {x y : Operand} {k : IntKind} {m n q : Int} (ho : o.op = .binOp .quo t x y yt) (hx : evalA env x = .d (.sc (.int k m))) (hy : evalA env y = .d (.sc (.int k n))) (hn : n ≠ 0) (hq : k.wrap (m.tdiv n) = q) (hd : dstOk o.dst O.nt = true) :
    LStep P O o env h [] [] (.d (.sc (.int k q))) [] := by
  subst hq
  refine .quiet hd (fun env' h' he _ a w G r => ?_)
  have h1 := evalA_rep r.env x
  have h2 := evalA_rep r.env y
  rw [he x (by simp [ho, Op.operands]), hx] at h1
  rw [he y (by simp [ho, Op.operands]), hy] at h2
  exact ⟨.int k (k.wrap (m.tdiv n)), by simp [execOp, ho, h1.sc_inv, h2.sc_inv, eqGuard, binOp, Op.intDiv, hn], .d _ _ (.sc _ rfl)⟩
end
def uN (n : Nat) : AV := .d (.sc (.int .u64 ((n : Nat) : Int)))
/-- what Div64 makes of its numbers first -/
structure NIn (hi lo y s y' a b : Nat) : Prop where
  s63 : s ≤ 63
  yy : y' = y * 2 ^ s
  low : 9223372036854775808 ≤ y'
  high : y' < 18446744073709551616
  ea : a = hi * 2 ^ s + lo / 2 ^ (64 - s)
  eb : b = lo * 2 ^ s % 18446744073709551616
  lt : a < y'
  all : (hi * 18446744073709551616 + lo) * 2 ^ s = a * 18446744073709551616 + b
  ll : lo / 2 ^ (64 - s) < 2 ^ s
  hs : hi * 2 ^ s < 18446744073709551616
theorem NIn.done {hi lo y s y' a b : Nat} (n : NIn hi lo y s y' a b) (_hy : 0 < y) :
    (hi * 18446744073709551616 + lo) / y = (a * 4294967296 + b / 4294967296) / y' * 4294967296 + ((a * 4294967296 + b / 4294967296) % y' * 4294967296 + b % 4294967296) / y' ∧
    ((a * 4294967296 + b / 4294967296) % y' * 4294967296 + b % 4294967296) % y' / 2 ^ s = (hi * 18446744073709551616 + lo) % y := by
  have ps : 0 < 2 ^ s := Nat.pow_pos (by decide)
  have hy' : 0 < y' := by have := n.low; omega
  have e := two_digits (a := a) (d := b / 4294967296) (e := b % 4294967296) hy'
  have e0 : a * 4294967296 * 4294967296 + b / 4294967296 * 4294967296 + b % 4294967296 = (hi * 18446744073709551616 + lo) * 2 ^ s := by rw [n.all]; omega
  rw [e0] at e
  refine ⟨?_, ?_⟩
  · rw [← e.1, n.yy, Nat.mul_div_mul_right _ _ ps]
  · rw [← e.2, n.yy, Nat.mul_mod_mul_right, Nat.mul_div_cancel _ ps]
end Go.SL
namespace Go.Proofs.YtofdnkgieigncaaGreat
open Go.SL
theorem mul64_ac (x y : Nat) (hx : x < 18446744073709551616) (hy : y < 18446744073709551616) : AC Tryz.prog 160 [uN x, uN y] [] [] (fun r _ => r = .tup [uN (x * y / 18446744073709551616), uN (x * y % 18446744073709551616)]) := by
  refine ⟨callable_of Tryz.func160 rfl rfl, fun w X G vs r hl hv => ?_⟩
  match vs, hl with
  | [v, v2], _ =>
    obtain rfl := Rep.sc_inv (hv 0 _ v rfl rfl)
    obtain rfl := Rep.sc_inv (hv 1 _ v2 rfl rfl)
    have c := Any.bits_Mul64 Tryz.mul64 x y hx hy w
    refine Calls.mono (f := 160) c ?_
    rintro ex w' ⟨rfl, rfl⟩
    refine ⟨_, .tup [uN (x * y / 18446744073709551616), uN (x * y % 18446744073709551616)], [], G, rfl, r, .tup _ _ rfl (fun i c v hc hv => ?_), rfl⟩
    match i, hc, hv with
    | 0, hc, hv => cases hc; cases hv; exact .d _ _ (.sc _ rfl)
    | 1, hc, hv => cases hc; cases hv; exact .d _ _ (.sc _ rfl)






















end Go.Proofs.YtofdnkgieigncaaGreat
