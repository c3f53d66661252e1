import Derived.Test.YtofdnkgieigncaaTf
import Derived.Test.YtofdnkgieigncaaTk
import Derived.Test.YtofdnkgieigncaaSq
import Derived.Test.YtofdnkgieigncaaPl
import Derived.Test.YtofdnkgieigncaaTab
import Derived.Test.YtofdnkgieigncaaH2
namespace Go.SL
/-! ### the quotient's digit, by Knuth: plain -/
structure KInv (a d y1 y0 q r : Nat) : Prop where
  sum : q * y1 + r = a
  big : (a * 4294967296 + d) / (y1 * 4294967296 + y0) ≤ q
  small : q ≤ 4294967297
  rest : r < 4294967296
structure KIn (a d y1 y0 : Nat) : Prop where
  hd : d < 4294967296
  hy0 : y0 < 4294967296
  hy1 : 2147483648 ≤ y1
  hy1' : y1 < 4294967296
  ha : a < y1 * 4294967296 + y0
section
variable {a d y1 y0 q r : Nat}
theorem k_mul (q y1 y0 : Nat) : q * (y1 * 4294967296 + y0) = q * y1 * 4294967296 + q * y0 := by rw [Nat.mul_add, Nat.mul_assoc]
theorem KIn.init (h : KIn a d y1 y0) : KInv a d y1 y0 (a / y1) (a % y1) := by
  obtain ⟨hd, hy0, hy1, hy1', ha⟩ := h
  have hpos : 0 < y1 := by omega
  refine ⟨?_, ?_, ?_, ?_⟩
  · rw [Nat.mul_comm]; exact Nat.div_add_mod a y1
  · refine Nat.le_of_lt_succ ((Nat.div_lt_iff_lt_mul (by omega)).2 ?_)
    have h1 := Nat.div_add_mod a y1
    have h2 := Nat.mod_lt a hpos
    have h3 : (a / y1 + 1) * (y1 * 4294967296 + y0) = (a / y1 + 1) * y1 * 4294967296 + (a / y1 + 1) * y0 := k_mul _ _ _
    have h4 : (a / y1 + 1) * y1 = y1 * (a / y1) + y1 := by rw [Nat.add_mul, Nat.one_mul, Nat.mul_comm]
    show _ < (a / y1 + 1) * (y1 * 4294967296 + y0)
    rw [h3, h4]
    generalize a / y1 = q at *
    generalize y1 * q = p at *
    generalize (q + 1) * y0 = z at *
    omega
  · refine Nat.le_of_lt_succ ((Nat.div_lt_iff_lt_mul hpos).2 ?_)
    omega
  · have := Nat.mod_lt a hpos
    omega
theorem KInv.stop (h : KIn a d y1 y0) (k : KInv a d y1 y0 q r) (hs : q * y0 ≤ 4294967296 * r + d) : q = (a * 4294967296 + d) / (y1 * 4294967296 + y0) := by
  obtain ⟨hd, hy0, hy1, hy1', ha⟩ := h
  obtain ⟨h1, h2, h3, h4⟩ := k
  refine Nat.le_antisymm ((Nat.le_div_iff_mul_le (by omega)).2 ?_) h2
  rw [k_mul]
  generalize q * y1 = p at *
  generalize q * y0 = z at *
  omega
theorem KIn.lt (h : KIn a d y1 y0) : (a * 4294967296 + d) / (y1 * 4294967296 + y0) < 4294967296 := by
  obtain ⟨hd, hy0, hy1, hy1', ha⟩ := h
  refine (Nat.div_lt_iff_lt_mul (by omega)).2 ?_
  omega
theorem KInv.over (h : KIn a d y1 y0) (k : KInv a d y1 y0 q r) (hc : 4294967296 ≤ q ∨ 4294967296 * r + d < q * y0) : (a * 4294967296 + d) / (y1 * 4294967296 + y0) < q := by
  have hl := h.lt
  obtain ⟨hd, hy0, hy1, hy1', ha⟩ := h
  obtain ⟨h1, h2, h3, h4⟩ := k
  rcases hc with hc | hc
  · omega
  · refine (Nat.div_lt_iff_lt_mul (by omega)).2 ?_
    rw [k_mul]
    generalize q * y1 = p at *
    generalize q * y0 = z at *
    omega
theorem KInv.step (h : KIn a d y1 y0) (k : KInv a d y1 y0 q r) (hc : 4294967296 ≤ q ∨ 4294967296 * r + d < q * y0) (hr : r + y1 < 4294967296) : KInv a d y1 y0 (q - 1) (r + y1) := by
  have ho := k.over h hc
  obtain ⟨h1, h2, h3, h4⟩ := k
  obtain ⟨q', rfl⟩ : ∃ q', q = q' + 1 := ⟨q - 1, by have := Nat.lt_of_le_of_lt (Nat.zero_le _) ho; omega⟩
  rw [Nat.add_mul, Nat.one_mul] at h1
  exact ⟨by rw [Nat.add_sub_cancel]; omega, by omega, by omega, hr⟩
theorem KInv.brk (h : KIn a d y1 y0) (k : KInv a d y1 y0 q r) (hc : 4294967296 ≤ q ∨ 4294967296 * r + d < q * y0) (hr : 4294967296 ≤ r + y1) : q - 1 = (a * 4294967296 + d) / (y1 * 4294967296 + y0) := by
  have ho := k.over h hc
  obtain ⟨hd, hy0, hy1, hy1', ha⟩ := h
  obtain ⟨h1, h2, h3, h4⟩ := k
  obtain ⟨q', rfl⟩ : ∃ q', q = q' + 1 := ⟨q - 1, by have := Nat.lt_of_le_of_lt (Nat.zero_le _) ho; omega⟩
  rw [Nat.add_mul, Nat.one_mul] at h1
  rw [Nat.add_sub_cancel]
  refine Nat.le_antisymm ((Nat.le_div_iff_mul_le (by omega)).2 ?_) (by omega)
  rw [k_mul]
  have h5 : q' * y0 ≤ 4294967296 * y0 := Nat.mul_le_mul_right _ (by omega)
  generalize q' * y1 = p at *
  generalize q' * y0 = z at *
  omega
/-- what is left behind a digit -/
theorem KIn.left (h : KIn a d y1 y0) : ∃ r, r < y1 * 4294967296 + y0 ∧ (a * 4294967296 + d) = (a * 4294967296 + d) / (y1 * 4294967296 + y0) * (y1 * 4294967296 + y0) + r ∧ r = (a * 4294967296 + d) % (y1 * 4294967296 + y0) := by
  obtain ⟨hd, hy0, hy1, hy1', ha⟩ := h
  refine ⟨_, Nat.mod_lt _ (by omega), ?_, rfl⟩
  have h := Nat.div_add_mod (a * 4294967296 + d) (y1 * 4294967296 + y0)
  rw [Nat.mul_comm (y1 * 4294967296 + y0)] at h
  exact h.symm
/-- two digits, one behind the other -/
theorem two_digits {a d e y : Nat} (hy : 0 < y) : (a * 4294967296 * 4294967296 + d * 4294967296 + e) / y = (a * 4294967296 + d) / y * 4294967296 + ((a * 4294967296 + d) % y * 4294967296 + e) / y
    ∧ (a * 4294967296 * 4294967296 + d * 4294967296 + e) % y = ((a * 4294967296 + d) % y * 4294967296 + e) % y := by
  have e1 : a * 4294967296 * 4294967296 + d * 4294967296 + e = ((a * 4294967296 + d) % y * 4294967296 + e) + y * ((a * 4294967296 + d) / y * 4294967296) := by
    have h := Nat.div_add_mod (a * 4294967296 + d) y
    have h2 : y * ((a * 4294967296 + d) / y * 4294967296) = y * ((a * 4294967296 + d) / y) * 4294967296 := by rw [Nat.mul_assoc]
    rw [h2]
    generalize (a * 4294967296 + d) % y = m at *
    generalize y * ((a * 4294967296 + d) / y) = p at *
    omega
  rw [e1, Nat.add_mul_div_left _ _ hy, Nat.add_mul_mod_self_left]
  exact ⟨by omega, rfl⟩
end
/-! ### numbers of 64 bits without a sign -/
section
variable {P : Program} {O : Org} {o : Oper} {env : Env} {h : Hp}
theorem LStep_quo {t yt : Nat} {x y : Operand} {k : IntKind} {m n q : Int} (ho : o.op = .binOp .quo t x y yt) (hx : evalA env x = .d (.sc (.int k m))) (hy : evalA env y = .d (.sc (.int k n))) (hn : n ≠ 0) (hq : k.wrap (m.tdiv n) = q) (hd : dstOk o.dst O.nt = true) :
    LStep P O o env h [] [] (.d (.sc (.int k q))) [] := by
  subst hq
  refine .quiet hd (fun env' h' he _ a w G r => ?_)
  have h1 := evalA_rep r.env x
  have h2 := evalA_rep r.env y
  rw [he x (by simp [ho, Op.operands]), hx] at h1
  rw [he y (by simp [ho, Op.operands]), hy] at h2
  exact ⟨.int k (k.wrap (m.tdiv n)), by simp [execOp, ho, h1.sc_inv, h2.sc_inv, eqGuard, binOp, Op.intDiv, hn], .d _ _ (.sc _ rfl)⟩
theorem LStep_rem {t yt : Nat} {x y : Operand} {k : IntKind} {m n q : Int} (ho : o.op = .binOp .rem t x y yt) (hx : evalA env x = .d (.sc (.int k m))) (hy : evalA env y = .d (.sc (.int k n))) (hn : n ≠ 0) (hq : m.tmod n = q) (hd : dstOk o.dst O.nt = true) :
    LStep P O o env h [] [] (.d (.sc (.int k q))) [] := by
  subst hq
  refine .quiet hd (fun env' h' he _ a w G r => ?_)
  have h1 := evalA_rep r.env x
  have h2 := evalA_rep r.env y
  rw [he x (by simp [ho, Op.operands]), hx] at h1
  rw [he y (by simp [ho, Op.operands]), hy] at h2
  exact ⟨.int k (m.tmod n), by simp [execOp, ho, h1.sc_inv, h2.sc_inv, eqGuard, binOp, Op.intDiv, hn], .d _ _ (.sc _ rfl)⟩
set_option maxRecDepth 10000 in
theorem LStep_shl {t yt : Nat} {x y : Operand} {k yk : IntKind} {m n q : Int} (ho : o.op = .binOp .shl t x y yt) (hx : evalA env x = .d (.sc (.int k m))) (hy : evalA env y = .d (.sc (.int yk n))) (hn : 0 ≤ n) (hq : k.wrap (m * 2 ^ (min n.toNat k.bits)) = q) (hd : dstOk o.dst O.nt = true) :
    LStep P O o env h [] [] (.d (.sc (.int k q))) [] := by
  subst hq
  refine .quiet hd (fun env' h' he _ a w G r => ?_)
  have h1 := evalA_rep r.env x
  have h2 := evalA_rep r.env y
  rw [he x (by simp [ho, Op.operands]), hx] at h1
  rw [he y (by simp [ho, Op.operands]), hy] at h2
  have hn' : ¬ n < 0 := by omega
  have e : (Op.shift .shl k m yk n).run P w = .ok (.int k (k.wrap (m * 2 ^ (min n.toNat k.bits)))) w := by
    unfold Op.shift
    rw [if_neg hn']
    rfl
  exact ⟨.int k (k.wrap (m * 2 ^ (min n.toNat k.bits))), by simp [execOp, ho, h1.sc_inv, h2.sc_inv, eqGuard, binOp, e], .d _ _ (.sc _ rfl)⟩
theorem LStep_fitAt {T : Tab P} {av av' : AV} {Ts : List Nat} (d : Nat) (_ : o.dst = some d) (hd : dstOk o.dst O.nt = true) (hs : simp1 T env h o.op = some (av, Ts)) (he : av = av') : LStep P O o env h Ts [] av' [] := he ▸ LStep_simp1 hd hs
def orI (k : IntKind) (m n : Int) : Int := k.wrap (BitVec.ofInt k.bits m ||| BitVec.ofInt k.bits n).toNat
theorem LStep_or {t yt : Nat} {x y : Operand} {k : IntKind} {m n q : Int} (ho : o.op = .binOp .or t x y yt) (hx : evalA env x = .d (.sc (.int k m))) (hy : evalA env y = .d (.sc (.int k n))) (hq : orI k m n = q) (hd : dstOk o.dst O.nt = true) :
    LStep P O o env h [] [] (.d (.sc (.int k q))) [] := by
  subst hq
  refine .quiet hd (fun env' h' he _ a w G r => ?_)
  have h1 := evalA_rep r.env x
  have h2 := evalA_rep r.env y
  rw [he x (by simp [ho, Op.operands]), hx] at h1
  rw [he y (by simp [ho, Op.operands]), hy] at h2
  exact ⟨.int k (orI k m n), by simp [execOp, ho, h1.sc_inv, h2.sc_inv, eqGuard, binOp, Op.intBits, orI], .d _ _ (.sc _ rfl)⟩
end
theorem u64_wrap (n : Int) : IntKind.u64.wrap n = n % 18446744073709551616 := by
  unfold IntKind.wrap
  simp only [IntKind.signed, Bool.false_and]
  rw [if_neg (by simp)]
  rfl
theorem u64_fit {n : Int} (h : 0 ≤ n ∧ n < 18446744073709551616) : IntKind.u64.wrap n = n := by rw [u64_wrap]; exact Int.emod_eq_of_lt h.1 h.2
theorem u64_quo {a b : Nat} (h : a < 18446744073709551616) : IntKind.u64.wrap (((a : Nat) : Int).tdiv ((b : Nat) : Int)) = ((a / b : Nat) : Int) := by
  have : ((a : Nat) : Int).tdiv ((b : Nat) : Int) = ((a / b : Nat) : Int) := rfl
  have hl := Nat.div_le_self a b
  rw [this]
  generalize a / b = q at *
  exact u64_fit ⟨by omega, by omega⟩
theorem u64_rem {a b : Nat} : ((a : Nat) : Int).tmod ((b : Nat) : Int) = ((a % b : Nat) : Int) := rfl
theorem u64_shl {x s : Nat} (hs : s ≤ 64) : IntKind.u64.wrap (((x : Nat) : Int) * 2 ^ (min ((s : Nat) : Int).toNat IntKind.u64.bits)) = ((x * 2 ^ s % 18446744073709551616 : Nat) : Int) := by
  rw [u64_wrap, Int.toNat_natCast, show min s IntKind.u64.bits = s from Nat.min_eq_left hs, Int.natCast_emod, Int.natCast_mul, Int.natCast_pow]
  rfl
theorem u64_shr {x s : Nat} (hs : s ≤ 64) : ((x : Nat) : Int).fdiv (2 ^ (min ((s : Nat) : Int).toNat IntKind.u64.bits)) = ((x / 2 ^ s : Nat) : Int) := by
  rw [Int.toNat_natCast, show min s IntKind.u64.bits = s from Nat.min_eq_left hs, Int.fdiv_eq_ediv_of_nonneg _ (by exact Int.le_of_lt (Int.pow_pos (by decide)))]
  norm_cast
theorem u64_low {x : Nat} (hx : x < 18446744073709551616) : andI .u64 ((x : Nat) : Int) 4294967295 = ((x % 4294967296 : Nat) : Int) := by
  have h1 : (BitVec.ofInt IntKind.u64.bits ((x : Nat) : Int) &&& BitVec.ofInt IntKind.u64.bits 4294967295).toNat = x % 4294967296 := by
    rw [BitVec.toNat_and, BitVec.toNat_ofInt, BitVec.toNat_ofInt]
    have e1 : ((((x : Nat) : Int)) % ((2 ^ IntKind.u64.bits : Nat) : Int)).toNat = x := by
      rw [show ((2 ^ IntKind.u64.bits : Nat) : Int) = 18446744073709551616 from rfl]; omega
    have e2 : ((4294967295 : Int) % ((2 ^ IntKind.u64.bits : Nat) : Int)).toNat = 2 ^ 32 - 1 := by
      rw [show ((2 ^ IntKind.u64.bits : Nat) : Int) = 18446744073709551616 from rfl]; decide
    rw [e1, e2, Nat.and_two_pow_sub_one_eq_mod]
  unfold andI
  rw [h1]
  exact u64_fit ⟨by omega, by omega⟩
theorem u64_orN {h l s : Nat} (hl : l < 2 ^ s) (hh : h * 2 ^ s < 18446744073709551616) (hs : h * 2 ^ s + l < 18446744073709551616) : orI .u64 ((h * 2 ^ s : Nat) : Int) ((l : Nat) : Int) = ((h * 2 ^ s + l : Nat) : Int) := by
  have h1 : (BitVec.ofInt IntKind.u64.bits ((h * 2 ^ s : Nat) : Int) ||| BitVec.ofInt IntKind.u64.bits ((l : Nat) : Int)).toNat = h * 2 ^ s + l := by
    rw [BitVec.toNat_or, BitVec.toNat_ofInt, BitVec.toNat_ofInt]
    have e1 : (((h * 2 ^ s : Nat) : Int) % ((2 ^ IntKind.u64.bits : Nat) : Int)).toNat = h * 2 ^ s := by
      rw [show ((2 ^ IntKind.u64.bits : Nat) : Int) = 18446744073709551616 from rfl]
      generalize h * 2 ^ s = p at *
      omega
    have e2 : (((l : Nat) : Int) % ((2 ^ IntKind.u64.bits : Nat) : Int)).toNat = l := by
      rw [show ((2 ^ IntKind.u64.bits : Nat) : Int) = 18446744073709551616 from rfl]
      generalize h * 2 ^ s = p at *
      omega
    rw [e1, e2, ← Nat.shiftLeft_eq, Nat.shiftLeft_add_eq_or_of_lt hl]
  unfold orI
  rw [h1]
  generalize h * 2 ^ s + l = p at *
  exact u64_fit ⟨by omega, by omega⟩
def uN (n : Nat) : AV := .d (.sc (.int .u64 ((n : Nat) : Int)))
/-- what Div64 makes of its numbers first -/
structure NIn (hi lo y s y' a b : Nat) : Prop where
  s63 : s ≤ 63
  yy : y' = y * 2 ^ s
  low : 9223372036854775808 ≤ y'
  high : y' < 18446744073709551616
  ea : a = hi * 2 ^ s + lo / 2 ^ (64 - s)
  eb : b = lo * 2 ^ s % 18446744073709551616
  lt : a < y'
  all : (hi * 18446744073709551616 + lo) * 2 ^ s = a * 18446744073709551616 + b
  ll : lo / 2 ^ (64 - s) < 2 ^ s
  hs : hi * 2 ^ s < 18446744073709551616
theorem bl_zero (f : Nat) : Lib.bitLenAux f 0 = 0 := by cases f <;> simp [Lib.bitLenAux]
theorem bl_in : ∀ (f x : Nat), x < 2 ^ f → x ≠ 0 → ∃ k, Lib.bitLenAux f x = k + 1 ∧ 2 ^ k ≤ x ∧ x < 2 ^ (k + 1)
  | 0, x, h, h0 => by rw [Nat.pow_zero] at h; omega
  | f + 1, x, h, h0 => by
    have e : Lib.bitLenAux (f + 1) x = 1 + Lib.bitLenAux f (x / 2) := by
      conv => lhs; unfold Lib.bitLenAux
      rw [if_neg h0]
    rw [e]
    by_cases h2 : x / 2 = 0
    · rw [h2, bl_zero]
      exact ⟨0, rfl, by omega, by omega⟩
    · rw [Nat.pow_succ] at h
      obtain ⟨k, k1, k2, k3⟩ := bl_in f (x / 2) (by omega) h2
      rw [k1]
      refine ⟨k + 1, by omega, ?_, ?_⟩
      · rw [Nat.pow_succ]; omega
      · rw [Nat.pow_succ, Nat.pow_succ]; rw [Nat.pow_succ] at k3; omega
theorem nIn {hi lo y : Nat} (h1 : hi < y) (hy : y < 18446744073709551616) (hl : lo < 18446744073709551616) : Lib.bitLen y ≤ 64 ∧ NIn hi lo y (64 - Lib.bitLen y) (y * 2 ^ (64 - Lib.bitLen y)) (hi * 2 ^ (64 - Lib.bitLen y) + lo / 2 ^ (64 - (64 - Lib.bitLen y))) (lo * 2 ^ (64 - Lib.bitLen y) % 18446744073709551616) := by
  obtain ⟨k, b1, b2, b3⟩ := bl_in 64 y hy (by omega)
  have hL : Lib.bitLenAux 64 y ≤ 64 := Lib.bitLen_le y 64 (Nat.le_refl _) hy
  unfold Lib.bitLen
  rw [b1] at hL ⊢
  refine ⟨hL, ?_⟩
  obtain ⟨s, hs, rfl⟩ : ∃ s, s ≤ 63 ∧ k = 63 - s := ⟨63 - k, by omega, by omega⟩
  rw [show 63 - s + 1 = 64 - s by omega] at *
  rw [show 64 - (64 - s) = s by omega]
  have p1 : 2 ^ (64 - s) * 2 ^ s = 18446744073709551616 := by rw [← Nat.pow_add, show 64 - s + s = 64 by omega]
  have p2 : 2 ^ (63 - s) * 2 ^ s = 9223372036854775808 := by rw [← Nat.pow_add, show 63 - s + s = 63 by omega]
  have ps : 0 < 2 ^ s := Nat.pow_pos (by decide)
  have m1 : 2 ^ (63 - s) * 2 ^ s ≤ y * 2 ^ s := Nat.mul_le_mul_right _ b2
  have m2 : (y + 1) * 2 ^ s ≤ 2 ^ (64 - s) * 2 ^ s := Nat.mul_le_mul_right _ (by omega)
  have m3 : (hi + 1) * 2 ^ s ≤ y * 2 ^ s := Nat.mul_le_mul_right _ h1
  have hll : lo / 2 ^ (64 - s) < 2 ^ s := by
    refine (Nat.div_lt_iff_lt_mul (Nat.pow_pos (by decide))).2 ?_
    rw [Nat.mul_comm, p1]; exact hl
  have hdm : lo * 2 ^ s / 18446744073709551616 = lo / 2 ^ (64 - s) := by rw [← p1, Nat.mul_div_mul_right _ _ ps]
  have hde := Nat.div_add_mod (lo * 2 ^ s) 18446744073709551616
  rw [hdm] at hde
  rw [Nat.add_mul, Nat.one_mul] at m2 m3
  refine ⟨hs, rfl, ?_, ?_, rfl, rfl, ?_, ?_, hll, ?_⟩
  · omega
  · omega
  · omega
  · rw [Nat.add_mul, Nat.add_mul, Nat.mul_right_comm]
    omega
  · omega
theorem NIn.done {hi lo y s y' a b : Nat} (n : NIn hi lo y s y' a b) (_hy : 0 < y) :
    (hi * 18446744073709551616 + lo) / y = (a * 4294967296 + b / 4294967296) / y' * 4294967296 + ((a * 4294967296 + b / 4294967296) % y' * 4294967296 + b % 4294967296) / y' ∧
    ((a * 4294967296 + b / 4294967296) % y' * 4294967296 + b % 4294967296) % y' / 2 ^ s = (hi * 18446744073709551616 + lo) % y := by
  have ps : 0 < 2 ^ s := Nat.pow_pos (by decide)
  have hy' : 0 < y' := by have := n.low; omega
  have e := two_digits (a := a) (d := b / 4294967296) (e := b % 4294967296) hy'
  have e0 : a * 4294967296 * 4294967296 + b / 4294967296 * 4294967296 + b % 4294967296 = (hi * 18446744073709551616 + lo) * 2 ^ s := by rw [n.all]; omega
  rw [e0] at e
  refine ⟨?_, ?_⟩
  · rw [← e.1, n.yy, Nat.mul_div_mul_right _ _ ps]
  · rw [← e.2, n.yy, Nat.mul_mod_mul_right, Nat.mul_div_cancel _ ps]
/-- what is left of one digit's step, of 64 bits -/
theorem u64_left {a d y q p : Nat} (hq : (a * 4294967296 + d) / y = q) (hy : y < 18446744073709551616) (h0 : 0 < y) (hp : p = q * y) :
    (((((a : Nat) : Int) * 4294967296) % 18446744073709551616 + ((d : Nat) : Int)) % 18446744073709551616 - ((p : Nat) : Int) % 18446744073709551616) % 18446744073709551616 = (((a * 4294967296 + d) % y : Nat) : Int) := by
  have h1 := Nat.div_add_mod (a * 4294967296 + d) y
  have h2 := Nat.mod_lt (a * 4294967296 + d) h0
  rw [hq, Nat.mul_comm, ← hp] at h1
  generalize (a * 4294967296 + d) % y = r at *
  omega
end Go.SL
namespace Go.Proofs.Ytofdnkgieigncaa
open Go.SL
theorem mul64_ac (x y : Nat) (hx : x < 18446744073709551616) (hy : y < 18446744073709551616) : AC Try.prog 22 [uN x, uN y] [] [] (fun r _ => r = .tup [uN (x * y / 18446744073709551616), uN (x * y % 18446744073709551616)]) := by
  refine ⟨callable_of Try.func22 rfl rfl, fun w X G vs r hl hv => ?_⟩
  match vs, hl with
  | [v, v2], _ =>
    obtain rfl := Rep.sc_inv (hv 0 _ v rfl rfl)
    obtain rfl := Rep.sc_inv (hv 1 _ v2 rfl rfl)
    have c := Any.bits_Mul64 Try.mul64 x y hx hy w
    refine Calls.mono (f := 22) c ?_
    rintro ex w' ⟨rfl, rfl⟩
    refine ⟨_, .tup [uN (x * y / 18446744073709551616), uN (x * y % 18446744073709551616)], [], G, rfl, r, .tup _ _ rfl (fun i c v hc hv => ?_), rfl⟩
    match i, hc, hv with
    | 0, hc, hv => cases hc; cases hv; exact .d _ _ (.sc _ rfl)
    | 1, hc, hv => cases hc; cases hv; exact .d _ _ (.sc _ rfl)
theorem lz64_ac (x : Nat) (hx : x < 18446744073709551616) (hL : Lib.bitLen x ≤ 64) : AC Try.prog 61 [uN x] [] [] (fun r _ => r = .d (.sc (.int .i64 ((64 - Lib.bitLen x : Nat) : Int)))) := by
  refine ⟨callable_of Try.func61 rfl rfl, fun w X G vs r hl hv => ?_⟩
  match vs, hl with
  | [v], _ =>
    obtain rfl := Rep.sc_inv (hv 0 _ v rfl rfl)
    have c := Any.bits_LeadingZeros64 Try.lz64 ((x : Nat) : Int) w (by omega) (by omega)
    rw [Int.toNat_natCast, show (64 - (Lib.bitLen x : Int)) = ((64 - Lib.bitLen x : Nat) : Int) by omega] at c
    refine Calls.mono (f := 61) c ?_
    rintro ex w' ⟨rfl, rfl⟩
    exact ⟨_, _, [], G, rfl, r, .d _ _ (.sc _ rfl), rfl⟩
set_option maxRecDepth 10000 in
/-- math/bits.Div64, the upper half 0 -/
theorem div64z_ac (a b : Nat) (ha : a < 18446744073709551616) (hb : 0 < b) : AC Try.prog 49 [uN 0, uN a, uN b] [] [] (fun r _ => r = .tup [uN (a / b), uN (a % b)]) := by
  have g1 : eqb ((b : Nat) : Int) 0 = false := by rw [eqb_f]; omega
  have g2 : leb ((b : Nat) : Int) ((0 : Nat) : Int) = false := by rw [leb_f]; omega
  have g3 : eqb ((0 : Nat) : Int) 0 = true := by rw [eqb_t]; omega
  unfold uN
  refine AC_enter Try.func49 rfl Try.ntmps49 (rv := [.tmp 6, .tmp 7]) rfl rfl (by simp) (fun w X G => ?_)
  repeat' (first | ((with_reducible refine gA ?_); (first | refine AW_seq ?_ | refine AW_region ?_ | refine AW_regionD Try.mixed ?_ | (refine AW_condY rfl ?_ ?_; assumption) | (refine AW_condN rfl ?_ ?_; assumption) | refine AW_ret ?_ | refine AW_skip ?_)) | (first | ((with_reducible refine gS ?_); refine Es_s (T := Try.tab) rfl rfl rfl rfl ?_) | ((with_reducible refine gD ?_); refine Ed_s (T := Try.tab) rfl rfl rfl rfl ?_)) | (((with_reducible refine gD ?_); apply Ed_q); rfl; rfl; (first | (refine LStep_quo rfl rfl rfl ?_ (u64_quo ha) rfl; omega) | (refine LStep_rem rfl rfl rfl ?_ u64_rem rfl; omega))) | (with_reducible refine Es_nil ?_) | ((with_reducible refine Ed_nil ?_ ?_); kernel_rfl) | (with_reducible refine then_n ?_) | (with_reducible refine then_r ?_) | ((with_reducible refine gR ?_); first | refine ret1 rfl ?_ | refine ret2 rfl rfl ?_ | refine ret0 ?_ | refine end1 rfl ?_ | refine end0 ?_))
  all_goals first
    | rfl
    | trace_state
set_option maxRecDepth 10000 in
set_option maxHeartbeats 8000000 in
theorem div64_ac (hi lo y : Nat) (hh : hi < y) (hy : y < 18446744073709551616) (hlo : lo < 18446744073709551616) : AC Try.prog 49 [uN hi, uN lo, uN y] [] [] (fun r _ => r = .tup [uN ((hi * 18446744073709551616 + lo) / y), uN ((hi * 18446744073709551616 + lo) % y)]) := by
  by_cases h0 : hi = 0
  · subst h0
    rw [Nat.zero_mul, Nat.zero_add]
    exact div64z_ac lo y hlo (by omega)
  obtain ⟨hL, n⟩ := nIn hh hy hlo
  have cz := lz64_ac y hy hL
  obtain ⟨done1, done2⟩ := n.done (by omega)
  generalize 64 - Lib.bitLen y = s at *
  generalize n1 : y * 2 ^ s = y' at *
  generalize n2 : hi * 2 ^ s + lo / 2 ^ (64 - s) = a at *
  generalize n3 : lo * 2 ^ s % 18446744073709551616 = b at *
  have s63 := n.s63
  have hly := n.low
  have hhy := n.high
  have hay := n.lt
  have w1 : IntKind.u64.wrap (((y : Nat) : Int) * 2 ^ (min ((s : Nat) : Int).toNat IntKind.u64.bits)) = ((y' : Nat) : Int) := by rw [u64_shl (by omega), n1, Nat.mod_eq_of_lt hhy]
  have w2 : ((y' : Nat) : Int).fdiv (2 ^ (min (32 : Int).toNat IntKind.u64.bits)) = ((y' / 4294967296 : Nat) : Int) := u64_shr (x := y') (s := 32) (by omega)
  have w3 := u64_low (x := y') hhy
  have w4 : IntKind.u64.wrap (((hi : Nat) : Int) * 2 ^ (min ((s : Nat) : Int).toNat IntKind.u64.bits)) = ((hi * 2 ^ s : Nat) : Int) := by rw [u64_shl (by omega), Nat.mod_eq_of_lt n.hs]
  have w5 : AV.d (.sc (.int .u64 (wrp .u64 (64 - ((s : Nat) : Int))))) = AV.d (.sc (.int .u64 ((64 - s : Nat) : Int))) := by
    rw [wrp_d, u64_fit ⟨by omega, by omega⟩]
    congr 3
    omega
  have w6 := u64_shr (x := lo) (s := 64 - s) (by omega)
  have w7 : orI .u64 ((hi * 2 ^ s : Nat) : Int) ((lo / 2 ^ (64 - s) : Nat) : Int) = ((a : Nat) : Int) := by
    have := u64_orN n.ll n.hs (by omega)
    rw [this, n2]
  have w8 : IntKind.u64.wrap (((lo : Nat) : Int) * 2 ^ (min ((s : Nat) : Int).toNat IntKind.u64.bits)) = ((b : Nat) : Int) := by rw [u64_shl (by omega), n3]
  have hb64 : b < 18446744073709551616 := by rw [← n3]; exact Nat.mod_lt _ (by decide)
  have w9 : ((b : Nat) : Int).fdiv (2 ^ (min (32 : Int).toNat IntKind.u64.bits)) = ((b / 4294967296 : Nat) : Int) := u64_shr (x := b) (s := 32) (by omega)
  have w10 := u64_low (x := b) hb64
  have w11 : ∀ x : Nat, ((x : Nat) : Int).fdiv (2 ^ (min ((s : Nat) : Int).toNat IntKind.u64.bits)) = ((x / 2 ^ s : Nat) : Int) := fun x => u64_shr (by omega)
  have ey : y' = y' / 4294967296 * 4294967296 + y' % 4294967296 := by omega
  have by1 : 2147483648 ≤ y' / 4294967296 := by omega
  have by2 : y' / 4294967296 < 4294967296 := by omega
  have by3 : y' % 4294967296 < 4294967296 := by omega
  have bd1 : b / 4294967296 < 4294967296 := by omega
  have bd0 : b % 4294967296 < 4294967296 := by omega
  rw [done1, ← done2]
  generalize hi * 2 ^ s = hs' at *
  generalize lo / 2 ^ (64 - s) = ll' at *
  clear done1 done2 n n1 n2 n3
  generalize y' / 4294967296 = y1 at *
  generalize y' % 4294967296 = y0 at *
  generalize b / 4294967296 = d1 at *
  generalize b % 4294967296 = d0 at *
  have K1 : KIn a d1 y1 y0 := ⟨bd1, by3, by1, by2, by omega⟩
  have hu : (a * 4294967296 + d1) % y' < y' := Nat.mod_lt _ (by omega)
  have e21 : AV.d (.sc (.int .u64 (wrp .u64 (wrp .u64 (wrp .u64 (((a : Nat) : Int) * 4294967296) + ((d1 : Nat) : Int)) - wrp .u64 ((((a * 4294967296 + d1) / y' : Nat) : Int) * ((y' : Nat) : Int)))))) = AV.d (.sc (.int .u64 (((a * 4294967296 + d1) % y' : Nat) : Int))) := by
    simp only [wrp_d, u64_wrap]
    have h := u64_left (a := a) (d := d1) (y := y') rfl hhy (by omega) rfl
    rw [Int.natCast_mul] at h
    rw [h]
  have m1 : AV.d (.sc (.int .u64 (wrp .u64 (((a : Nat) : Int) - wrp .u64 (((a / y1 : Nat) : Int) * ((y1 : Nat) : Int)))))) = AV.d (.sc (.int .u64 ((a % y1 : Nat) : Int))) := by
    have h1 := Nat.div_add_mod a y1
    have h2 : y1 * (a / y1) ≤ a := by omega
    rw [wrp_d, wrp_d, ← Int.natCast_mul, Nat.mul_comm (a / y1) y1]
    generalize y1 * (a / y1) = p at *
    generalize a % y1 = m at *
    rw [show IntKind.u64.wrap ((p : Nat) : Int) = ((p : Nat) : Int) from u64_fit ⟨by omega, by omega⟩, u64_fit ⟨by omega, by omega⟩]
    congr 3
    omega
  have q1v : IntKind.u64.wrap (((a : Nat) : Int).tdiv ((y1 : Nat) : Int)) = ((a / y1 : Nat) : Int) := u64_quo (by omega)
  have hy0 : 0 < y' := by omega
  have Q1 := K1.lt
  rw [← ey] at Q1
  obtain ⟨u, hu'⟩ : ∃ u, u = (a * 4294967296 + d1) % y' := ⟨_, rfl⟩
  rw [← hu'] at hu e21 ⊢
  have K2 : KIn u d0 y1 y0 := ⟨bd0, by3, by1, by2, by omega⟩
  have e28 : AV.d (.sc (.int .u64 (wrp .u64 (wrp .u64 (wrp .u64 (((u : Nat) : Int) * 4294967296) + ((d0 : Nat) : Int)) - wrp .u64 ((((u * 4294967296 + d0) / y' : Nat) : Int) * ((y' : Nat) : Int)))))) = AV.d (.sc (.int .u64 (((u * 4294967296 + d0) % y' : Nat) : Int))) := by
    simp only [wrp_d, u64_wrap]
    have h := u64_left (a := u) (d := d0) (y := y') rfl hhy (by omega) rfl
    rw [Int.natCast_mul] at h
    rw [h]
  have m2 : AV.d (.sc (.int .u64 (wrp .u64 (((u : Nat) : Int) - wrp .u64 (((u / y1 : Nat) : Int) * ((y1 : Nat) : Int)))))) = AV.d (.sc (.int .u64 ((u % y1 : Nat) : Int))) := by
    have h1 := Nat.div_add_mod u y1
    have h2 : y1 * (u / y1) ≤ u := by omega
    rw [wrp_d, wrp_d, ← Int.natCast_mul, Nat.mul_comm (u / y1) y1]
    generalize y1 * (u / y1) = p at *
    generalize u % y1 = m at *
    rw [show IntKind.u64.wrap ((p : Nat) : Int) = ((p : Nat) : Int) from u64_fit ⟨by omega, by omega⟩, u64_fit ⟨by omega, by omega⟩]
    congr 3
    omega
  have q2v : IntKind.u64.wrap (((u : Nat) : Int).tdiv ((y1 : Nat) : Int)) = ((u / y1 : Nat) : Int) := u64_quo (by omega)
  have Q2 := K2.lt
  rw [← ey] at Q2
  have s1 := fun q r (k : KInv a d1 y1 y0 q r) => k.stop K1
  have t1 := fun q r (k : KInv a d1 y1 y0 q r) => k.step K1
  have b1 := fun q r (k : KInv a d1 y1 y0 q r) => k.brk K1
  have o1 := fun q r (k : KInv a d1 y1 y0 q r) => k.over K1
  have i1 := K1.init
  have s2 := fun q r (k : KInv u d0 y1 y0 q r) => k.stop K2
  have t2 := fun q r (k : KInv u d0 y1 y0 q r) => k.step K2
  have b2 := fun q r (k : KInv u d0 y1 y0 q r) => k.brk K2
  have o2 := fun q r (k : KInv u d0 y1 y0 q r) => k.over K2
  have i2 := K2.init
  rw [← ey] at s1 b1 o1 s2 b2 o2
  obtain ⟨Q, hQ'⟩ : ∃ Q, Q = (a * 4294967296 + d1) / y' := ⟨_, rfl⟩
  rw [← hQ'] at e21 s1 b1 o1 Q1 ⊢
  obtain ⟨R, hR'⟩ : ∃ R, R = (u * 4294967296 + d0) / y' := ⟨_, rfl⟩
  rw [← hR'] at e28 s2 b2 o2 Q2 ⊢
  obtain ⟨v, hv'⟩ : ∃ v, v = (u * 4294967296 + d0) % y' := ⟨_, rfl⟩
  rw [← hv'] at e28 ⊢
  clear hu' hQ' hR' hv'
  have eR : AV.d (.sc (.int .u64 (wrp .u64 (wrp .u64 (((Q : Nat) : Int) * 4294967296) + ((R : Nat) : Int))))) = AV.d (.sc (.int .u64 ((Q * 4294967296 + R : Nat) : Int))) := by
    rw [wrp_d, wrp_d, show IntKind.u64.wrap (((Q : Nat) : Int) * 4294967296) = ((Q : Nat) : Int) * 4294967296 from u64_fit ⟨by omega, by omega⟩, u64_fit ⟨by omega, by omega⟩]
    congr 3
  have g1 : eqb ((y : Nat) : Int) 0 = false := by rw [eqb_f]; omega
  have g2 : leb ((y : Nat) : Int) ((hi : Nat) : Int) = false := by rw [leb_f]; omega
  have g3 : eqb ((hi : Nat) : Int) 0 = false := by rw [eqb_f]; omega
  unfold uN at *
  refine AC_enter Try.func49 rfl Try.ntmps49 (rv := [.tmp 6, .tmp 7]) rfl rfl (by simp) (fun w X G => ?_)
  repeat' (first | ((with_reducible refine gA ?_); (first | refine AW_seq ?_ | refine AW_region ?_ | (refine AW_condN rfl ?_ ?_; assumption) | refine AW_block ?_ | refine AW_skip ?_)) | (((with_reducible refine gS ?_); apply Es_q); rfl; rfl; (first | (refine LStep_conv (T := Try.tab) rfl rfl rfl rfl rfl ?_; (refine u64_fit ?_; omega)) | (refine LStep_fitAt (T := Try.tab) (Ts := []) 49 ?_ ?_ ?_ w5; exact rfl; exact rfl; exact rfl) | (refine LStep_fitAt (T := Try.tab) (Ts := []) 66 ?_ ?_ ?_ m1; exact rfl; exact rfl; exact rfl))) | ((with_reducible refine gS ?_); refine Es_s (T := Try.tab) rfl rfl rfl rfl ?_) | (((with_reducible refine gS ?_); apply Es_q); rfl; rfl; (first | refine LStep_call (cz) rfl rfl rfl rfl | (refine LStep_shl rfl rfl rfl ?_ w1 rfl; omega) | (refine LStep_shr rfl rfl rfl ?_ w2 rfl; omega) | refine LStep_and rfl rfl rfl w3 rfl | (refine LStep_shl rfl rfl rfl ?_ w4 rfl; omega) | (refine LStep_shr rfl rfl rfl ?_ w6 rfl; omega) | refine LStep_or rfl rfl rfl w7 rfl | (refine LStep_shl rfl rfl rfl ?_ w8 rfl; omega) | (refine LStep_shr rfl rfl rfl ?_ w9 rfl; omega) | refine LStep_and rfl rfl rfl w10 rfl | (refine LStep_quo rfl rfl rfl ?_ q1v rfl; omega))) | (((with_reducible refine gS ?_); apply Es_q); rfl; rfl; refine LStep_wrap (T := Try.tab) rfl rfl) | (with_reducible refine Es_nil ?_) | (with_reducible refine then_n ?_))
  refine AW_forE (S := Nat × Nat) (fun z => KInv a d1 y1 y0 z.1 z.2) (fun z => [(15, .d (.sc (.int .u64 ((z.1 : Nat) : Int)))), (16, .d (.sc (.int .u64 ((z.2 : Nat) : Int))))]) (fun _ => []) (fun z => z.1) (a / y1, a % y1) i1 (by (repeat' (first | exact trivial | exact rfl | (refine ⟨Or.inl rfl, ?_⟩) | (refine ⟨Or.inr rfl, ?_⟩) | (refine ⟨Or.inr trivial, ?_⟩) | (refine ⟨rfl, ?_⟩) | (refine ⟨?_, ?_⟩)))) (by (repeat' (first | exact trivial | exact rfl | (refine ⟨Or.inl rfl, ?_⟩) | (refine ⟨Or.inr rfl, ?_⟩) | (refine ⟨Or.inr trivial, ?_⟩) | (refine ⟨rfl, ?_⟩) | (refine ⟨?_, ?_⟩)))) ?_
  intro ⟨q, r⟩ hI
  dsimp only at hI
  have hql := hI.small
  have hrl := hI.rest
  have hs2 : AV.d (.sc (.int .u64 (wrp .u64 (((r : Nat) : Int) + ((y1 : Nat) : Int))))) = AV.d (.sc (.int .u64 ((r + y1 : Nat) : Int))) := by rw [wrp_d, u64_fit ⟨by omega, by omega⟩]; rfl
  by_cases hq : 4294967296 ≤ q
  · have g4 : leb 4294967296 ((q : Nat) : Int) = true := by rw [leb_t]; omega
    have ho := o1 q r hI (.inl hq)
    have hs1 : AV.d (.sc (.int .u64 (wrp .u64 (((q : Nat) : Int) - 1)))) = AV.d (.sc (.int .u64 ((q - 1 : Nat) : Int))) := by
      rw [wrp_d, u64_fit ⟨by omega, by omega⟩]
      congr 3
      omega
    by_cases hr : r + y1 < 4294967296
    · have g5 : leb 4294967296 ((r + y1 : Nat) : Int) = false := by rw [leb_f]; omega
      repeat' (first | ((with_reducible refine gA ?_); (first | refine AW_seq ?_ | refine AW_region ?_ | refine AW_condT rfl ?_ | (refine AW_condN rfl ?_ ?_; assumption) | refine AW_block ?_ | refine AW_skip ?_)) | (((with_reducible refine gS ?_); apply Es_q); rfl; rfl; (first | (refine LStep_fitAt (T := Try.tab) (Ts := []) 80 ?_ ?_ ?_ hs1; exact rfl; exact rfl; exact rfl) | (refine LStep_fitAt (T := Try.tab) (Ts := []) 83 ?_ ?_ ?_ hs2; exact rfl; exact rfl; exact rfl))) | ((with_reducible refine gS ?_); refine Es_s (T := Try.tab) rfl rfl rfl rfl ?_) | (((with_reducible refine gS ?_); apply Es_q); rfl; rfl; (refine LStep_pickT rfl rfl ?_ rfl rfl; assumption)) | (refine Es_skip rfl ?_ rfl ?_; (first | rfl | (refine w_tf ?_; assumption) | (refine w_ft ?_; assumption))) | (with_reducible refine Es_nil ?_) | (with_reducible refine then_n ?_) | (with_reducible refine block_n ?_))
      all_goals first
        | (refine ⟨(q - 1, r + y1), t1 q r hI (.inl hq) hr, by dsimp only; omega, by (repeat' (first | exact trivial | exact rfl | (refine ⟨Or.inl rfl, ?_⟩) | (refine ⟨Or.inr rfl, ?_⟩) | (refine ⟨Or.inr trivial, ?_⟩) | (refine ⟨rfl, ?_⟩) | (refine ⟨?_, ?_⟩))), by (repeat' (first | exact trivial | exact rfl | (refine ⟨Or.inl rfl, ?_⟩) | (refine ⟨Or.inr rfl, ?_⟩) | (refine ⟨Or.inr trivial, ?_⟩) | (refine ⟨rfl, ?_⟩) | (refine ⟨?_, ?_⟩))), by (repeat' (first | exact trivial | exact rfl | (refine ⟨Or.inl rfl, ?_⟩) | (refine ⟨Or.inr rfl, ?_⟩) | (refine ⟨Or.inr trivial, ?_⟩) | (refine ⟨rfl, ?_⟩) | (refine ⟨?_, ?_⟩))), by (repeat' (first | exact trivial | exact rfl | (refine ⟨Or.inl rfl, ?_⟩) | (refine ⟨Or.inr rfl, ?_⟩) | (refine ⟨Or.inr trivial, ?_⟩) | (refine ⟨rfl, ?_⟩) | (refine ⟨?_, ?_⟩)))⟩; done)
        | trace_state
    · have g5 : leb 4294967296 ((r + y1 : Nat) : Int) = true := by rw [leb_t]; omega
      have hQ := b1 q r hI (.inl hq) (by omega)
      rw [hQ] at hs1
      repeat' (first | ((with_reducible refine gA ?_); (first | refine AW_seq ?_ | refine AW_region ?_ | refine AW_condT rfl ?_ | (refine AW_condY rfl ?_ ?_; assumption) | refine AW_block ?_ | refine AW_skip ?_ | refine AW_exit ?_)) | (((with_reducible refine gS ?_); apply Es_q); rfl; rfl; (first | (refine LStep_fitAt (T := Try.tab) (Ts := []) 80 ?_ ?_ ?_ hs1; exact rfl; exact rfl; exact rfl) | (refine LStep_fitAt (T := Try.tab) (Ts := []) 83 ?_ ?_ ?_ hs2; exact rfl; exact rfl; exact rfl) | (refine LStep_fitAt (T := Try.tab) (Ts := []) 93 ?_ ?_ ?_ e21; exact rfl; exact rfl; exact rfl) | (refine LStep_fitAt (T := Try.tab) (Ts := []) 101 ?_ ?_ ?_ m2; exact rfl; exact rfl; exact rfl))) | ((with_reducible refine gS ?_); refine Es_s (T := Try.tab) rfl rfl rfl rfl ?_) | (((with_reducible refine gS ?_); apply Es_q); rfl; rfl; (refine LStep_quo rfl rfl rfl ?_ q2v rfl; omega)) | (((with_reducible refine gS ?_); apply Es_q); rfl; rfl; (first | refine LStep_wrap (T := Try.tab) rfl rfl | (refine LStep_pickT rfl rfl ?_ rfl rfl; assumption))) | (refine Es_skip rfl ?_ rfl ?_; (first | rfl | (refine w_tf ?_; assumption) | (refine w_ft ?_; assumption))) | (with_reducible refine Es_nil ?_) | (with_reducible refine then_n ?_) | (with_reducible refine then_e ?_) | ((with_reducible refine block_e ?_ ?_); rfl) | ((with_reducible refine block_x ?_ ?_); rfl))
      clear hI hql hrl
      refine AW_forE (S := Nat × Nat) (fun z => KInv u d0 y1 y0 z.1 z.2) (fun z => [(18, .d (.sc (.int .u64 ((z.1 : Nat) : Int)))), (16, .d (.sc (.int .u64 ((z.2 : Nat) : Int))))]) (fun _ => []) (fun z => z.1) (u / y1, u % y1) i2 (by (repeat' (first | exact trivial | exact rfl | (refine ⟨Or.inl rfl, ?_⟩) | (refine ⟨Or.inr rfl, ?_⟩) | (refine ⟨Or.inr trivial, ?_⟩) | (refine ⟨rfl, ?_⟩) | (refine ⟨?_, ?_⟩)))) (by (repeat' (first | exact trivial | exact rfl | (refine ⟨Or.inl rfl, ?_⟩) | (refine ⟨Or.inr rfl, ?_⟩) | (refine ⟨Or.inr trivial, ?_⟩) | (refine ⟨rfl, ?_⟩) | (refine ⟨?_, ?_⟩)))) ?_
      intro ⟨q, r⟩ hI
      dsimp only at hI
      have hql := hI.small
      have hrl := hI.rest
      have hs2 : AV.d (.sc (.int .u64 (wrp .u64 (((r : Nat) : Int) + ((y1 : Nat) : Int))))) = AV.d (.sc (.int .u64 ((r + y1 : Nat) : Int))) := by rw [wrp_d, u64_fit ⟨by omega, by omega⟩]; rfl
      by_cases hq : 4294967296 ≤ q
      · have g4 : leb 4294967296 ((q : Nat) : Int) = true := by rw [leb_t]; omega
        have ho := o2 q r hI (.inl hq)
        have hs1 : AV.d (.sc (.int .u64 (wrp .u64 (((q : Nat) : Int) - 1)))) = AV.d (.sc (.int .u64 ((q - 1 : Nat) : Int))) := by
          rw [wrp_d, u64_fit ⟨by omega, by omega⟩]
          congr 3
          omega
        by_cases hr : r + y1 < 4294967296
        · have g5 : leb 4294967296 ((r + y1 : Nat) : Int) = false := by rw [leb_f]; omega
          repeat' (first | ((with_reducible refine gA ?_); (first | refine AW_seq ?_ | refine AW_region ?_ | refine AW_condT rfl ?_ | (refine AW_condN rfl ?_ ?_; assumption) | refine AW_block ?_ | refine AW_skip ?_)) | (((with_reducible refine gS ?_); apply Es_q); rfl; rfl; (first | (refine LStep_fitAt (T := Try.tab) (Ts := []) 115 ?_ ?_ ?_ hs1; exact rfl; exact rfl; exact rfl) | (refine LStep_fitAt (T := Try.tab) (Ts := []) 118 ?_ ?_ ?_ hs2; exact rfl; exact rfl; exact rfl))) | ((with_reducible refine gS ?_); refine Es_s (T := Try.tab) rfl rfl rfl rfl ?_) | (((with_reducible refine gS ?_); apply Es_q); rfl; rfl; (refine LStep_pickT rfl rfl ?_ rfl rfl; assumption)) | (refine Es_skip rfl ?_ rfl ?_; (first | rfl | (refine w_tf ?_; assumption) | (refine w_ft ?_; assumption))) | (with_reducible refine Es_nil ?_) | (with_reducible refine then_n ?_) | (with_reducible refine block_n ?_))
          all_goals first
            | (refine ⟨(q - 1, r + y1), t2 q r hI (.inl hq) hr, by dsimp only; omega, by (repeat' (first | exact trivial | exact rfl | (refine ⟨Or.inl rfl, ?_⟩) | (refine ⟨Or.inr rfl, ?_⟩) | (refine ⟨Or.inr trivial, ?_⟩) | (refine ⟨rfl, ?_⟩) | (refine ⟨?_, ?_⟩))), by (repeat' (first | exact trivial | exact rfl | (refine ⟨Or.inl rfl, ?_⟩) | (refine ⟨Or.inr rfl, ?_⟩) | (refine ⟨Or.inr trivial, ?_⟩) | (refine ⟨rfl, ?_⟩) | (refine ⟨?_, ?_⟩))), by (repeat' (first | exact trivial | exact rfl | (refine ⟨Or.inl rfl, ?_⟩) | (refine ⟨Or.inr rfl, ?_⟩) | (refine ⟨Or.inr trivial, ?_⟩) | (refine ⟨rfl, ?_⟩) | (refine ⟨?_, ?_⟩))), by (repeat' (first | exact trivial | exact rfl | (refine ⟨Or.inl rfl, ?_⟩) | (refine ⟨Or.inr rfl, ?_⟩) | (refine ⟨Or.inr trivial, ?_⟩) | (refine ⟨rfl, ?_⟩) | (refine ⟨?_, ?_⟩)))⟩; done)
            | trace_state
        · have g5 : leb 4294967296 ((r + y1 : Nat) : Int) = true := by rw [leb_t]; omega
          have hQ := b2 q r hI (.inl hq) (by omega)
          rw [hQ] at hs1
          repeat' (first | ((with_reducible refine gA ?_); (first | refine AW_seq ?_ | refine AW_region ?_ | refine AW_condT rfl ?_ | (refine AW_condY rfl ?_ ?_; assumption) | refine AW_block ?_ | refine AW_ret ?_ | refine AW_skip ?_ | refine AW_exit ?_)) | (((with_reducible refine gS ?_); apply Es_q); rfl; rfl; (first | (refine LStep_fitAt (T := Try.tab) (Ts := []) 115 ?_ ?_ ?_ hs1; exact rfl; exact rfl; exact rfl) | (refine LStep_fitAt (T := Try.tab) (Ts := []) 118 ?_ ?_ ?_ hs2; exact rfl; exact rfl; exact rfl) | (refine LStep_fitAt (T := Try.tab) (Ts := []) 124 ?_ ?_ ?_ eR; exact rfl; exact rfl; exact rfl) | (refine LStep_fitAt (T := Try.tab) (Ts := []) 132 ?_ ?_ ?_ e28; exact rfl; exact rfl; exact rfl))) | ((with_reducible refine gS ?_); refine Es_s (T := Try.tab) rfl rfl rfl rfl ?_) | (((with_reducible refine gS ?_); apply Es_q); rfl; rfl; (refine LStep_shr rfl rfl rfl ?_ (w11 v) rfl; omega)) | (((with_reducible refine gS ?_); apply Es_q); rfl; rfl; (first | refine LStep_wrap (T := Try.tab) rfl rfl | (refine LStep_pickT rfl rfl ?_ rfl rfl; assumption))) | (refine Es_skip rfl ?_ rfl ?_; (first | rfl | (refine w_tf ?_; assumption) | (refine w_ft ?_; assumption))) | (with_reducible refine Es_nil ?_) | (with_reducible refine then_n ?_) | (with_reducible refine then_e ?_) | ((with_reducible refine block_e ?_ ?_); rfl) | ((with_reducible refine block_x ?_ ?_); rfl) | ((with_reducible refine gR ?_); first | refine ret1 rfl ?_ | refine ret2 rfl rfl ?_ | refine ret0 ?_ | refine end1 rfl ?_ | refine end0 ?_))
          all_goals first
            | rfl
            | trace_state
      · have g4 : leb 4294967296 ((q : Nat) : Int) = false := by rw [leb_f]; omega
        have hqy : q * y0 ≤ 4294967295 * 4294967295 := Nat.mul_le_mul (by omega) (by omega)
        have p1 : AV.d (.sc (.int .u64 (wrp .u64 (((q : Nat) : Int) * ((y0 : Nat) : Int))))) = AV.d (.sc (.int .u64 ((q * y0 : Nat) : Int))) := by
          rw [wrp_d, ← Int.natCast_mul]
          generalize q * y0 = p at *
          rw [u64_fit ⟨by omega, by omega⟩]
        have p2 : AV.d (.sc (.int .u64 (wrp .u64 (4294967296 * ((r : Nat) : Int))))) = AV.d (.sc (.int .u64 ((4294967296 * r : Nat) : Int))) := by rw [wrp_d, u64_fit ⟨by omega, by omega⟩]; congr 3
        have p3 : AV.d (.sc (.int .u64 (wrp .u64 (((4294967296 * r : Nat) : Int) + ((d0 : Nat) : Int))))) = AV.d (.sc (.int .u64 ((4294967296 * r + d0 : Nat) : Int))) := by rw [wrp_d, u64_fit ⟨by omega, by omega⟩]; congr 3
        by_cases hp : 4294967296 * r + d0 < q * y0
        · have g6 : ltb ((4294967296 * r + d0 : Nat) : Int) ((q * y0 : Nat) : Int) = true := by rw [ltb_t]; omega
          have ho := o2 q r hI (.inr hp)
          have hs1 : AV.d (.sc (.int .u64 (wrp .u64 (((q : Nat) : Int) - 1)))) = AV.d (.sc (.int .u64 ((q - 1 : Nat) : Int))) := by
            rw [wrp_d, u64_fit ⟨by omega, by omega⟩]
            congr 3
            omega
          by_cases hr : r + y1 < 4294967296
          · have g5 : leb 4294967296 ((r + y1 : Nat) : Int) = false := by rw [leb_f]; omega
            repeat' (first | ((with_reducible refine gA ?_); (first | refine AW_seq ?_ | refine AW_region ?_ | (refine AW_condY rfl ?_ ?_; assumption) | (refine AW_condN rfl ?_ ?_; assumption) | refine AW_block ?_ | refine AW_skip ?_)) | (((with_reducible refine gS ?_); apply Es_q); rfl; (first | rfl | (refine w_ff ?_; assumption)); (first | (refine LStep_fitAt (T := Try.tab) (Ts := []) 107 ?_ ?_ ?_ p1; exact rfl; exact rfl; exact rfl) | (refine LStep_fitAt (T := Try.tab) (Ts := []) 109 ?_ ?_ ?_ p2; exact rfl; exact rfl; exact rfl) | (refine LStep_fitAt (T := Try.tab) (Ts := []) 111 ?_ ?_ ?_ p3; exact rfl; exact rfl; exact rfl) | (refine LStep_fitAt (T := Try.tab) (Ts := []) 115 ?_ ?_ ?_ hs1; exact rfl; exact rfl; exact rfl) | (refine LStep_fitAt (T := Try.tab) (Ts := []) 118 ?_ ?_ ?_ hs2; exact rfl; exact rfl; exact rfl))) | ((with_reducible refine gS ?_); refine Es_s (T := Try.tab) rfl rfl rfl rfl ?_) | (((with_reducible refine gS ?_); apply Es_q); rfl; (first | rfl | (refine w_ff ?_; assumption)); (first | refine LStep_simp (T := Try.tab) rfl rfl | (refine LStep_pickF rfl rfl ?_ rfl rfl; assumption))) | (with_reducible refine Es_nil ?_) | (with_reducible refine then_n ?_) | (with_reducible refine block_n ?_))
            all_goals first
              | (refine ⟨(q - 1, r + y1), t2 q r hI (.inr hp) hr, by dsimp only; omega, by (repeat' (first | exact trivial | exact rfl | (refine ⟨Or.inl rfl, ?_⟩) | (refine ⟨Or.inr rfl, ?_⟩) | (refine ⟨Or.inr trivial, ?_⟩) | (refine ⟨rfl, ?_⟩) | (refine ⟨?_, ?_⟩))), by (repeat' (first | exact trivial | exact rfl | (refine ⟨Or.inl rfl, ?_⟩) | (refine ⟨Or.inr rfl, ?_⟩) | (refine ⟨Or.inr trivial, ?_⟩) | (refine ⟨rfl, ?_⟩) | (refine ⟨?_, ?_⟩))), by (repeat' (first | exact trivial | exact rfl | (refine ⟨Or.inl rfl, ?_⟩) | (refine ⟨Or.inr rfl, ?_⟩) | (refine ⟨Or.inr trivial, ?_⟩) | (refine ⟨rfl, ?_⟩) | (refine ⟨?_, ?_⟩))), by (repeat' (first | exact trivial | exact rfl | (refine ⟨Or.inl rfl, ?_⟩) | (refine ⟨Or.inr rfl, ?_⟩) | (refine ⟨Or.inr trivial, ?_⟩) | (refine ⟨rfl, ?_⟩) | (refine ⟨?_, ?_⟩)))⟩; done)
              | trace_state
          · have g5 : leb 4294967296 ((r + y1 : Nat) : Int) = true := by rw [leb_t]; omega
            have hQ := b2 q r hI (.inr hp) (by omega)
            rw [hQ] at hs1
            repeat' (first | ((with_reducible refine gA ?_); (first | refine AW_seq ?_ | refine AW_region ?_ | (refine AW_condY rfl ?_ ?_; assumption) | refine AW_block ?_ | refine AW_ret ?_ | refine AW_skip ?_ | refine AW_exit ?_)) | (((with_reducible refine gS ?_); apply Es_q); rfl; (first | rfl | (refine w_ff ?_; assumption)); (first | (refine LStep_fitAt (T := Try.tab) (Ts := []) 107 ?_ ?_ ?_ p1; exact rfl; exact rfl; exact rfl) | (refine LStep_fitAt (T := Try.tab) (Ts := []) 109 ?_ ?_ ?_ p2; exact rfl; exact rfl; exact rfl) | (refine LStep_fitAt (T := Try.tab) (Ts := []) 111 ?_ ?_ ?_ p3; exact rfl; exact rfl; exact rfl) | (refine LStep_fitAt (T := Try.tab) (Ts := []) 115 ?_ ?_ ?_ hs1; exact rfl; exact rfl; exact rfl) | (refine LStep_fitAt (T := Try.tab) (Ts := []) 118 ?_ ?_ ?_ hs2; exact rfl; exact rfl; exact rfl) | (refine LStep_fitAt (T := Try.tab) (Ts := []) 124 ?_ ?_ ?_ eR; exact rfl; exact rfl; exact rfl) | (refine LStep_fitAt (T := Try.tab) (Ts := []) 132 ?_ ?_ ?_ e28; exact rfl; exact rfl; exact rfl))) | ((with_reducible refine gS ?_); refine Es_s (T := Try.tab) rfl rfl rfl rfl ?_) | (((with_reducible refine gS ?_); apply Es_q); rfl; (first | rfl | (refine w_ff ?_; assumption)); (refine LStep_shr rfl rfl rfl ?_ (w11 v) rfl; omega)) | (((with_reducible refine gS ?_); apply Es_q); rfl; (first | rfl | (refine w_ff ?_; assumption)); (first | refine LStep_simp (T := Try.tab) rfl rfl | refine LStep_wrap (T := Try.tab) rfl rfl | (refine LStep_pickF rfl rfl ?_ rfl rfl; assumption))) | (with_reducible refine Es_nil ?_) | (with_reducible refine then_n ?_) | (with_reducible refine then_e ?_) | ((with_reducible refine block_e ?_ ?_); rfl) | ((with_reducible refine block_x ?_ ?_); rfl) | ((with_reducible refine gR ?_); first | refine ret1 rfl ?_ | refine ret2 rfl rfl ?_ | refine ret0 ?_ | refine end1 rfl ?_ | refine end0 ?_))
            all_goals first
              | rfl
              | trace_state
        · have g6 : ltb ((4294967296 * r + d0 : Nat) : Int) ((q * y0 : Nat) : Int) = false := by rw [ltb_f]; omega
          have hQ := s2 q r hI (by omega)
          subst hQ
          repeat' (first | ((with_reducible refine gA ?_); (first | refine AW_seq ?_ | refine AW_region ?_ | (refine AW_condN rfl ?_ ?_; assumption) | refine AW_ret ?_ | refine AW_exit ?_)) | (((with_reducible refine gS ?_); apply Es_q); rfl; (first | rfl | (refine w_ff ?_; assumption)); (first | (refine LStep_fitAt (T := Try.tab) (Ts := []) 107 ?_ ?_ ?_ p1; exact rfl; exact rfl; exact rfl) | (refine LStep_fitAt (T := Try.tab) (Ts := []) 109 ?_ ?_ ?_ p2; exact rfl; exact rfl; exact rfl) | (refine LStep_fitAt (T := Try.tab) (Ts := []) 111 ?_ ?_ ?_ p3; exact rfl; exact rfl; exact rfl) | (refine LStep_fitAt (T := Try.tab) (Ts := []) 124 ?_ ?_ ?_ eR; exact rfl; exact rfl; exact rfl) | (refine LStep_fitAt (T := Try.tab) (Ts := []) 132 ?_ ?_ ?_ e28; exact rfl; exact rfl; exact rfl))) | ((with_reducible refine gS ?_); refine Es_s (T := Try.tab) rfl rfl rfl rfl ?_) | (((with_reducible refine gS ?_); apply Es_q); rfl; (first | rfl | (refine w_ff ?_; assumption)); (refine LStep_shr rfl rfl rfl ?_ (w11 v) rfl; omega)) | (((with_reducible refine gS ?_); apply Es_q); rfl; (first | rfl | (refine w_ff ?_; assumption)); (first | refine LStep_simp (T := Try.tab) rfl rfl | refine LStep_wrap (T := Try.tab) rfl rfl | (refine LStep_pickF rfl rfl ?_ rfl rfl; assumption))) | (with_reducible refine Es_nil ?_) | (with_reducible refine then_n ?_) | (with_reducible refine then_e ?_) | ((with_reducible refine block_e ?_ ?_); rfl) | ((with_reducible refine gR ?_); first | refine ret1 rfl ?_ | refine ret2 rfl rfl ?_ | refine ret0 ?_ | refine end1 rfl ?_ | refine end0 ?_))
          all_goals first
            | rfl
            | trace_state
  · have g4 : leb 4294967296 ((q : Nat) : Int) = false := by rw [leb_f]; omega
    have hqy : q * y0 ≤ 4294967295 * 4294967295 := Nat.mul_le_mul (by omega) (by omega)
    have p1 : AV.d (.sc (.int .u64 (wrp .u64 (((q : Nat) : Int) * ((y0 : Nat) : Int))))) = AV.d (.sc (.int .u64 ((q * y0 : Nat) : Int))) := by
      rw [wrp_d, ← Int.natCast_mul]
      generalize q * y0 = p at *
      rw [u64_fit ⟨by omega, by omega⟩]
    have p2 : AV.d (.sc (.int .u64 (wrp .u64 (4294967296 * ((r : Nat) : Int))))) = AV.d (.sc (.int .u64 ((4294967296 * r : Nat) : Int))) := by rw [wrp_d, u64_fit ⟨by omega, by omega⟩]; congr 3
    have p3 : AV.d (.sc (.int .u64 (wrp .u64 (((4294967296 * r : Nat) : Int) + ((d1 : Nat) : Int))))) = AV.d (.sc (.int .u64 ((4294967296 * r + d1 : Nat) : Int))) := by rw [wrp_d, u64_fit ⟨by omega, by omega⟩]; congr 3
    by_cases hp : 4294967296 * r + d1 < q * y0
    · have g6 : ltb ((4294967296 * r + d1 : Nat) : Int) ((q * y0 : Nat) : Int) = true := by rw [ltb_t]; omega
      have ho := o1 q r hI (.inr hp)
      have hs1 : AV.d (.sc (.int .u64 (wrp .u64 (((q : Nat) : Int) - 1)))) = AV.d (.sc (.int .u64 ((q - 1 : Nat) : Int))) := by
        rw [wrp_d, u64_fit ⟨by omega, by omega⟩]
        congr 3
        omega
      by_cases hr : r + y1 < 4294967296
      · have g5 : leb 4294967296 ((r + y1 : Nat) : Int) = false := by rw [leb_f]; omega
        repeat' (first | ((with_reducible refine gA ?_); (first | refine AW_seq ?_ | refine AW_region ?_ | (refine AW_condY rfl ?_ ?_; assumption) | (refine AW_condN rfl ?_ ?_; assumption) | refine AW_block ?_ | refine AW_skip ?_)) | (((with_reducible refine gS ?_); apply Es_q); rfl; (first | rfl | (refine w_ff ?_; assumption)); (first | (refine LStep_fitAt (T := Try.tab) (Ts := []) 72 ?_ ?_ ?_ p1; exact rfl; exact rfl; exact rfl) | (refine LStep_fitAt (T := Try.tab) (Ts := []) 74 ?_ ?_ ?_ p2; exact rfl; exact rfl; exact rfl) | (refine LStep_fitAt (T := Try.tab) (Ts := []) 76 ?_ ?_ ?_ p3; exact rfl; exact rfl; exact rfl) | (refine LStep_fitAt (T := Try.tab) (Ts := []) 80 ?_ ?_ ?_ hs1; exact rfl; exact rfl; exact rfl) | (refine LStep_fitAt (T := Try.tab) (Ts := []) 83 ?_ ?_ ?_ hs2; exact rfl; exact rfl; exact rfl))) | ((with_reducible refine gS ?_); refine Es_s (T := Try.tab) rfl rfl rfl rfl ?_) | (((with_reducible refine gS ?_); apply Es_q); rfl; (first | rfl | (refine w_ff ?_; assumption)); (first | refine LStep_simp (T := Try.tab) rfl rfl | (refine LStep_pickF rfl rfl ?_ rfl rfl; assumption))) | (with_reducible refine Es_nil ?_) | (with_reducible refine then_n ?_) | (with_reducible refine block_n ?_))
        all_goals first
          | (refine ⟨(q - 1, r + y1), t1 q r hI (.inr hp) hr, by dsimp only; omega, by (repeat' (first | exact trivial | exact rfl | (refine ⟨Or.inl rfl, ?_⟩) | (refine ⟨Or.inr rfl, ?_⟩) | (refine ⟨Or.inr trivial, ?_⟩) | (refine ⟨rfl, ?_⟩) | (refine ⟨?_, ?_⟩))), by (repeat' (first | exact trivial | exact rfl | (refine ⟨Or.inl rfl, ?_⟩) | (refine ⟨Or.inr rfl, ?_⟩) | (refine ⟨Or.inr trivial, ?_⟩) | (refine ⟨rfl, ?_⟩) | (refine ⟨?_, ?_⟩))), by (repeat' (first | exact trivial | exact rfl | (refine ⟨Or.inl rfl, ?_⟩) | (refine ⟨Or.inr rfl, ?_⟩) | (refine ⟨Or.inr trivial, ?_⟩) | (refine ⟨rfl, ?_⟩) | (refine ⟨?_, ?_⟩))), by (repeat' (first | exact trivial | exact rfl | (refine ⟨Or.inl rfl, ?_⟩) | (refine ⟨Or.inr rfl, ?_⟩) | (refine ⟨Or.inr trivial, ?_⟩) | (refine ⟨rfl, ?_⟩) | (refine ⟨?_, ?_⟩)))⟩; done)
          | trace_state
      · have g5 : leb 4294967296 ((r + y1 : Nat) : Int) = true := by rw [leb_t]; omega
        have hQ := b1 q r hI (.inr hp) (by omega)
        rw [hQ] at hs1
        repeat' (first | ((with_reducible refine gA ?_); (first | refine AW_seq ?_ | refine AW_region ?_ | (refine AW_condY rfl ?_ ?_; assumption) | refine AW_block ?_ | refine AW_skip ?_ | refine AW_exit ?_)) | (((with_reducible refine gS ?_); apply Es_q); rfl; (first | rfl | (refine w_ff ?_; assumption)); (first | (refine LStep_fitAt (T := Try.tab) (Ts := []) 72 ?_ ?_ ?_ p1; exact rfl; exact rfl; exact rfl) | (refine LStep_fitAt (T := Try.tab) (Ts := []) 74 ?_ ?_ ?_ p2; exact rfl; exact rfl; exact rfl) | (refine LStep_fitAt (T := Try.tab) (Ts := []) 76 ?_ ?_ ?_ p3; exact rfl; exact rfl; exact rfl) | (refine LStep_fitAt (T := Try.tab) (Ts := []) 80 ?_ ?_ ?_ hs1; exact rfl; exact rfl; exact rfl) | (refine LStep_fitAt (T := Try.tab) (Ts := []) 83 ?_ ?_ ?_ hs2; exact rfl; exact rfl; exact rfl) | (refine LStep_fitAt (T := Try.tab) (Ts := []) 93 ?_ ?_ ?_ e21; exact rfl; exact rfl; exact rfl) | (refine LStep_fitAt (T := Try.tab) (Ts := []) 101 ?_ ?_ ?_ m2; exact rfl; exact rfl; exact rfl))) | ((with_reducible refine gS ?_); refine Es_s (T := Try.tab) rfl rfl rfl rfl ?_) | (((with_reducible refine gS ?_); apply Es_q); rfl; (first | rfl | (refine w_ff ?_; assumption)); (refine LStep_quo rfl rfl rfl ?_ q2v rfl; omega)) | (((with_reducible refine gS ?_); apply Es_q); rfl; (first | rfl | (refine w_ff ?_; assumption)); (first | refine LStep_simp (T := Try.tab) rfl rfl | refine LStep_wrap (T := Try.tab) rfl rfl | (refine LStep_pickF rfl rfl ?_ rfl rfl; assumption))) | (with_reducible refine Es_nil ?_) | (with_reducible refine then_n ?_) | (with_reducible refine then_e ?_) | ((with_reducible refine block_e ?_ ?_); rfl) | ((with_reducible refine block_x ?_ ?_); rfl))
        clear hI hql hrl
        refine AW_forE (S := Nat × Nat) (fun z => KInv u d0 y1 y0 z.1 z.2) (fun z => [(18, .d (.sc (.int .u64 ((z.1 : Nat) : Int)))), (16, .d (.sc (.int .u64 ((z.2 : Nat) : Int))))]) (fun _ => []) (fun z => z.1) (u / y1, u % y1) i2 (by (repeat' (first | exact trivial | exact rfl | (refine ⟨Or.inl rfl, ?_⟩) | (refine ⟨Or.inr rfl, ?_⟩) | (refine ⟨Or.inr trivial, ?_⟩) | (refine ⟨rfl, ?_⟩) | (refine ⟨?_, ?_⟩)))) (by (repeat' (first | exact trivial | exact rfl | (refine ⟨Or.inl rfl, ?_⟩) | (refine ⟨Or.inr rfl, ?_⟩) | (refine ⟨Or.inr trivial, ?_⟩) | (refine ⟨rfl, ?_⟩) | (refine ⟨?_, ?_⟩)))) ?_
        intro ⟨q, r⟩ hI
        dsimp only at hI
        have hql := hI.small
        have hrl := hI.rest
        have hs2 : AV.d (.sc (.int .u64 (wrp .u64 (((r : Nat) : Int) + ((y1 : Nat) : Int))))) = AV.d (.sc (.int .u64 ((r + y1 : Nat) : Int))) := by rw [wrp_d, u64_fit ⟨by omega, by omega⟩]; rfl
        by_cases hq : 4294967296 ≤ q
        · have g4 : leb 4294967296 ((q : Nat) : Int) = true := by rw [leb_t]; omega
          have ho := o2 q r hI (.inl hq)
          have hs1 : AV.d (.sc (.int .u64 (wrp .u64 (((q : Nat) : Int) - 1)))) = AV.d (.sc (.int .u64 ((q - 1 : Nat) : Int))) := by
            rw [wrp_d, u64_fit ⟨by omega, by omega⟩]
            congr 3
            omega
          by_cases hr : r + y1 < 4294967296
          · have g5 : leb 4294967296 ((r + y1 : Nat) : Int) = false := by rw [leb_f]; omega
            repeat' (first | ((with_reducible refine gA ?_); (first | refine AW_seq ?_ | refine AW_region ?_ | refine AW_condT rfl ?_ | (refine AW_condN rfl ?_ ?_; assumption) | refine AW_block ?_ | refine AW_skip ?_)) | (((with_reducible refine gS ?_); apply Es_q); rfl; rfl; (first | (refine LStep_fitAt (T := Try.tab) (Ts := []) 115 ?_ ?_ ?_ hs1; exact rfl; exact rfl; exact rfl) | (refine LStep_fitAt (T := Try.tab) (Ts := []) 118 ?_ ?_ ?_ hs2; exact rfl; exact rfl; exact rfl))) | ((with_reducible refine gS ?_); refine Es_s (T := Try.tab) rfl rfl rfl rfl ?_) | (((with_reducible refine gS ?_); apply Es_q); rfl; rfl; (refine LStep_pickT rfl rfl ?_ rfl rfl; assumption)) | (refine Es_skip rfl ?_ rfl ?_; (first | rfl | (refine w_tf ?_; assumption) | (refine w_ft ?_; assumption))) | (with_reducible refine Es_nil ?_) | (with_reducible refine then_n ?_) | (with_reducible refine block_n ?_))
            all_goals first
              | (refine ⟨(q - 1, r + y1), t2 q r hI (.inl hq) hr, by dsimp only; omega, by (repeat' (first | exact trivial | exact rfl | (refine ⟨Or.inl rfl, ?_⟩) | (refine ⟨Or.inr rfl, ?_⟩) | (refine ⟨Or.inr trivial, ?_⟩) | (refine ⟨rfl, ?_⟩) | (refine ⟨?_, ?_⟩))), by (repeat' (first | exact trivial | exact rfl | (refine ⟨Or.inl rfl, ?_⟩) | (refine ⟨Or.inr rfl, ?_⟩) | (refine ⟨Or.inr trivial, ?_⟩) | (refine ⟨rfl, ?_⟩) | (refine ⟨?_, ?_⟩))), by (repeat' (first | exact trivial | exact rfl | (refine ⟨Or.inl rfl, ?_⟩) | (refine ⟨Or.inr rfl, ?_⟩) | (refine ⟨Or.inr trivial, ?_⟩) | (refine ⟨rfl, ?_⟩) | (refine ⟨?_, ?_⟩))), by (repeat' (first | exact trivial | exact rfl | (refine ⟨Or.inl rfl, ?_⟩) | (refine ⟨Or.inr rfl, ?_⟩) | (refine ⟨Or.inr trivial, ?_⟩) | (refine ⟨rfl, ?_⟩) | (refine ⟨?_, ?_⟩)))⟩; done)
              | trace_state
          · have g5 : leb 4294967296 ((r + y1 : Nat) : Int) = true := by rw [leb_t]; omega
            have hQ := b2 q r hI (.inl hq) (by omega)
            rw [hQ] at hs1
            repeat' (first | ((with_reducible refine gA ?_); (first | refine AW_seq ?_ | refine AW_region ?_ | refine AW_condT rfl ?_ | (refine AW_condY rfl ?_ ?_; assumption) | refine AW_block ?_ | refine AW_ret ?_ | refine AW_skip ?_ | refine AW_exit ?_)) | (((with_reducible refine gS ?_); apply Es_q); rfl; rfl; (first | (refine LStep_fitAt (T := Try.tab) (Ts := []) 115 ?_ ?_ ?_ hs1; exact rfl; exact rfl; exact rfl) | (refine LStep_fitAt (T := Try.tab) (Ts := []) 118 ?_ ?_ ?_ hs2; exact rfl; exact rfl; exact rfl) | (refine LStep_fitAt (T := Try.tab) (Ts := []) 124 ?_ ?_ ?_ eR; exact rfl; exact rfl; exact rfl) | (refine LStep_fitAt (T := Try.tab) (Ts := []) 132 ?_ ?_ ?_ e28; exact rfl; exact rfl; exact rfl))) | ((with_reducible refine gS ?_); refine Es_s (T := Try.tab) rfl rfl rfl rfl ?_) | (((with_reducible refine gS ?_); apply Es_q); rfl; rfl; (refine LStep_shr rfl rfl rfl ?_ (w11 v) rfl; omega)) | (((with_reducible refine gS ?_); apply Es_q); rfl; rfl; (first | refine LStep_wrap (T := Try.tab) rfl rfl | (refine LStep_pickT rfl rfl ?_ rfl rfl; assumption))) | (refine Es_skip rfl ?_ rfl ?_; (first | rfl | (refine w_tf ?_; assumption) | (refine w_ft ?_; assumption))) | (with_reducible refine Es_nil ?_) | (with_reducible refine then_n ?_) | (with_reducible refine then_e ?_) | ((with_reducible refine block_e ?_ ?_); rfl) | ((with_reducible refine block_x ?_ ?_); rfl) | ((with_reducible refine gR ?_); first | refine ret1 rfl ?_ | refine ret2 rfl rfl ?_ | refine ret0 ?_ | refine end1 rfl ?_ | refine end0 ?_))
            all_goals first
              | rfl
              | trace_state
        · have g4 : leb 4294967296 ((q : Nat) : Int) = false := by rw [leb_f]; omega
          have hqy : q * y0 ≤ 4294967295 * 4294967295 := Nat.mul_le_mul (by omega) (by omega)
          have p1 : AV.d (.sc (.int .u64 (wrp .u64 (((q : Nat) : Int) * ((y0 : Nat) : Int))))) = AV.d (.sc (.int .u64 ((q * y0 : Nat) : Int))) := by
            rw [wrp_d, ← Int.natCast_mul]
            generalize q * y0 = p at *
            rw [u64_fit ⟨by omega, by omega⟩]
          have p2 : AV.d (.sc (.int .u64 (wrp .u64 (4294967296 * ((r : Nat) : Int))))) = AV.d (.sc (.int .u64 ((4294967296 * r : Nat) : Int))) := by rw [wrp_d, u64_fit ⟨by omega, by omega⟩]; congr 3
          have p3 : AV.d (.sc (.int .u64 (wrp .u64 (((4294967296 * r : Nat) : Int) + ((d0 : Nat) : Int))))) = AV.d (.sc (.int .u64 ((4294967296 * r + d0 : Nat) : Int))) := by rw [wrp_d, u64_fit ⟨by omega, by omega⟩]; congr 3
          by_cases hp : 4294967296 * r + d0 < q * y0
          · have g6 : ltb ((4294967296 * r + d0 : Nat) : Int) ((q * y0 : Nat) : Int) = true := by rw [ltb_t]; omega
            have ho := o2 q r hI (.inr hp)
            have hs1 : AV.d (.sc (.int .u64 (wrp .u64 (((q : Nat) : Int) - 1)))) = AV.d (.sc (.int .u64 ((q - 1 : Nat) : Int))) := by
              rw [wrp_d, u64_fit ⟨by omega, by omega⟩]
              congr 3
              omega
            by_cases hr : r + y1 < 4294967296
            · have g5 : leb 4294967296 ((r + y1 : Nat) : Int) = false := by rw [leb_f]; omega
              repeat' (first | ((with_reducible refine gA ?_); (first | refine AW_seq ?_ | refine AW_region ?_ | (refine AW_condY rfl ?_ ?_; assumption) | (refine AW_condN rfl ?_ ?_; assumption) | refine AW_block ?_ | refine AW_skip ?_)) | (((with_reducible refine gS ?_); apply Es_q); rfl; (first | rfl | (refine w_ff ?_; assumption)); (first | (refine LStep_fitAt (T := Try.tab) (Ts := []) 107 ?_ ?_ ?_ p1; exact rfl; exact rfl; exact rfl) | (refine LStep_fitAt (T := Try.tab) (Ts := []) 109 ?_ ?_ ?_ p2; exact rfl; exact rfl; exact rfl) | (refine LStep_fitAt (T := Try.tab) (Ts := []) 111 ?_ ?_ ?_ p3; exact rfl; exact rfl; exact rfl) | (refine LStep_fitAt (T := Try.tab) (Ts := []) 115 ?_ ?_ ?_ hs1; exact rfl; exact rfl; exact rfl) | (refine LStep_fitAt (T := Try.tab) (Ts := []) 118 ?_ ?_ ?_ hs2; exact rfl; exact rfl; exact rfl))) | ((with_reducible refine gS ?_); refine Es_s (T := Try.tab) rfl rfl rfl rfl ?_) | (((with_reducible refine gS ?_); apply Es_q); rfl; (first | rfl | (refine w_ff ?_; assumption)); (first | refine LStep_simp (T := Try.tab) rfl rfl | (refine LStep_pickF rfl rfl ?_ rfl rfl; assumption))) | (with_reducible refine Es_nil ?_) | (with_reducible refine then_n ?_) | (with_reducible refine block_n ?_))
              all_goals first
                | (refine ⟨(q - 1, r + y1), t2 q r hI (.inr hp) hr, by dsimp only; omega, by (repeat' (first | exact trivial | exact rfl | (refine ⟨Or.inl rfl, ?_⟩) | (refine ⟨Or.inr rfl, ?_⟩) | (refine ⟨Or.inr trivial, ?_⟩) | (refine ⟨rfl, ?_⟩) | (refine ⟨?_, ?_⟩))), by (repeat' (first | exact trivial | exact rfl | (refine ⟨Or.inl rfl, ?_⟩) | (refine ⟨Or.inr rfl, ?_⟩) | (refine ⟨Or.inr trivial, ?_⟩) | (refine ⟨rfl, ?_⟩) | (refine ⟨?_, ?_⟩))), by (repeat' (first | exact trivial | exact rfl | (refine ⟨Or.inl rfl, ?_⟩) | (refine ⟨Or.inr rfl, ?_⟩) | (refine ⟨Or.inr trivial, ?_⟩) | (refine ⟨rfl, ?_⟩) | (refine ⟨?_, ?_⟩))), by (repeat' (first | exact trivial | exact rfl | (refine ⟨Or.inl rfl, ?_⟩) | (refine ⟨Or.inr rfl, ?_⟩) | (refine ⟨Or.inr trivial, ?_⟩) | (refine ⟨rfl, ?_⟩) | (refine ⟨?_, ?_⟩)))⟩; done)
                | trace_state
            · have g5 : leb 4294967296 ((r + y1 : Nat) : Int) = true := by rw [leb_t]; omega
              have hQ := b2 q r hI (.inr hp) (by omega)
              rw [hQ] at hs1
              repeat' (first | ((with_reducible refine gA ?_); (first | refine AW_seq ?_ | refine AW_region ?_ | (refine AW_condY rfl ?_ ?_; assumption) | refine AW_block ?_ | refine AW_ret ?_ | refine AW_skip ?_ | refine AW_exit ?_)) | (((with_reducible refine gS ?_); apply Es_q); rfl; (first | rfl | (refine w_ff ?_; assumption)); (first | (refine LStep_fitAt (T := Try.tab) (Ts := []) 107 ?_ ?_ ?_ p1; exact rfl; exact rfl; exact rfl) | (refine LStep_fitAt (T := Try.tab) (Ts := []) 109 ?_ ?_ ?_ p2; exact rfl; exact rfl; exact rfl) | (refine LStep_fitAt (T := Try.tab) (Ts := []) 111 ?_ ?_ ?_ p3; exact rfl; exact rfl; exact rfl) | (refine LStep_fitAt (T := Try.tab) (Ts := []) 115 ?_ ?_ ?_ hs1; exact rfl; exact rfl; exact rfl) | (refine LStep_fitAt (T := Try.tab) (Ts := []) 118 ?_ ?_ ?_ hs2; exact rfl; exact rfl; exact rfl) | (refine LStep_fitAt (T := Try.tab) (Ts := []) 124 ?_ ?_ ?_ eR; exact rfl; exact rfl; exact rfl) | (refine LStep_fitAt (T := Try.tab) (Ts := []) 132 ?_ ?_ ?_ e28; exact rfl; exact rfl; exact rfl))) | ((with_reducible refine gS ?_); refine Es_s (T := Try.tab) rfl rfl rfl rfl ?_) | (((with_reducible refine gS ?_); apply Es_q); rfl; (first | rfl | (refine w_ff ?_; assumption)); (refine LStep_shr rfl rfl rfl ?_ (w11 v) rfl; omega)) | (((with_reducible refine gS ?_); apply Es_q); rfl; (first | rfl | (refine w_ff ?_; assumption)); (first | refine LStep_simp (T := Try.tab) rfl rfl | refine LStep_wrap (T := Try.tab) rfl rfl | (refine LStep_pickF rfl rfl ?_ rfl rfl; assumption))) | (with_reducible refine Es_nil ?_) | (with_reducible refine then_n ?_) | (with_reducible refine then_e ?_) | ((with_reducible refine block_e ?_ ?_); rfl) | ((with_reducible refine block_x ?_ ?_); rfl) | ((with_reducible refine gR ?_); first | refine ret1 rfl ?_ | refine ret2 rfl rfl ?_ | refine ret0 ?_ | refine end1 rfl ?_ | refine end0 ?_))
              all_goals first
                | rfl
                | trace_state
          · have g6 : ltb ((4294967296 * r + d0 : Nat) : Int) ((q * y0 : Nat) : Int) = false := by rw [ltb_f]; omega
            have hQ := s2 q r hI (by omega)
            subst hQ
            repeat' (first | ((with_reducible refine gA ?_); (first | refine AW_seq ?_ | refine AW_region ?_ | (refine AW_condN rfl ?_ ?_; assumption) | refine AW_ret ?_ | refine AW_exit ?_)) | (((with_reducible refine gS ?_); apply Es_q); rfl; (first | rfl | (refine w_ff ?_; assumption)); (first | (refine LStep_fitAt (T := Try.tab) (Ts := []) 107 ?_ ?_ ?_ p1; exact rfl; exact rfl; exact rfl) | (refine LStep_fitAt (T := Try.tab) (Ts := []) 109 ?_ ?_ ?_ p2; exact rfl; exact rfl; exact rfl) | (refine LStep_fitAt (T := Try.tab) (Ts := []) 111 ?_ ?_ ?_ p3; exact rfl; exact rfl; exact rfl) | (refine LStep_fitAt (T := Try.tab) (Ts := []) 124 ?_ ?_ ?_ eR; exact rfl; exact rfl; exact rfl) | (refine LStep_fitAt (T := Try.tab) (Ts := []) 132 ?_ ?_ ?_ e28; exact rfl; exact rfl; exact rfl))) | ((with_reducible refine gS ?_); refine Es_s (T := Try.tab) rfl rfl rfl rfl ?_) | (((with_reducible refine gS ?_); apply Es_q); rfl; (first | rfl | (refine w_ff ?_; assumption)); (refine LStep_shr rfl rfl rfl ?_ (w11 v) rfl; omega)) | (((with_reducible refine gS ?_); apply Es_q); rfl; (first | rfl | (refine w_ff ?_; assumption)); (first | refine LStep_simp (T := Try.tab) rfl rfl | refine LStep_wrap (T := Try.tab) rfl rfl | (refine LStep_pickF rfl rfl ?_ rfl rfl; assumption))) | (with_reducible refine Es_nil ?_) | (with_reducible refine then_n ?_) | (with_reducible refine then_e ?_) | ((with_reducible refine block_e ?_ ?_); rfl) | ((with_reducible refine gR ?_); first | refine ret1 rfl ?_ | refine ret2 rfl rfl ?_ | refine ret0 ?_ | refine end1 rfl ?_ | refine end0 ?_))
            all_goals first
              | rfl
              | trace_state
    · have g6 : ltb ((4294967296 * r + d1 : Nat) : Int) ((q * y0 : Nat) : Int) = false := by rw [ltb_f]; omega
      have hQ := s1 q r hI (by omega)
      subst hQ
      repeat' (first | ((with_reducible refine gA ?_); (first | refine AW_seq ?_ | refine AW_region ?_ | (refine AW_condN rfl ?_ ?_; assumption) | refine AW_block ?_ | refine AW_exit ?_)) | (((with_reducible refine gS ?_); apply Es_q); rfl; (first | rfl | (refine w_ff ?_; assumption)); (first | (refine LStep_fitAt (T := Try.tab) (Ts := []) 72 ?_ ?_ ?_ p1; exact rfl; exact rfl; exact rfl) | (refine LStep_fitAt (T := Try.tab) (Ts := []) 74 ?_ ?_ ?_ p2; exact rfl; exact rfl; exact rfl) | (refine LStep_fitAt (T := Try.tab) (Ts := []) 76 ?_ ?_ ?_ p3; exact rfl; exact rfl; exact rfl) | (refine LStep_fitAt (T := Try.tab) (Ts := []) 93 ?_ ?_ ?_ e21; exact rfl; exact rfl; exact rfl) | (refine LStep_fitAt (T := Try.tab) (Ts := []) 101 ?_ ?_ ?_ m2; exact rfl; exact rfl; exact rfl))) | ((with_reducible refine gS ?_); refine Es_s (T := Try.tab) rfl rfl rfl rfl ?_) | (((with_reducible refine gS ?_); apply Es_q); rfl; (first | rfl | (refine w_ff ?_; assumption)); (refine LStep_quo rfl rfl rfl ?_ q2v rfl; omega)) | (((with_reducible refine gS ?_); apply Es_q); rfl; (first | rfl | (refine w_ff ?_; assumption)); (first | refine LStep_simp (T := Try.tab) rfl rfl | refine LStep_wrap (T := Try.tab) rfl rfl | (refine LStep_pickF rfl rfl ?_ rfl rfl; assumption))) | (with_reducible refine Es_nil ?_) | (with_reducible refine then_n ?_) | (with_reducible refine then_e ?_) | ((with_reducible refine block_e ?_ ?_); rfl))
      clear hI hql hrl
      refine AW_forE (S := Nat × Nat) (fun z => KInv u d0 y1 y0 z.1 z.2) (fun z => [(18, .d (.sc (.int .u64 ((z.1 : Nat) : Int)))), (16, .d (.sc (.int .u64 ((z.2 : Nat) : Int))))]) (fun _ => []) (fun z => z.1) (u / y1, u % y1) i2 (by (repeat' (first | exact trivial | exact rfl | (refine ⟨Or.inl rfl, ?_⟩) | (refine ⟨Or.inr rfl, ?_⟩) | (refine ⟨Or.inr trivial, ?_⟩) | (refine ⟨rfl, ?_⟩) | (refine ⟨?_, ?_⟩)))) (by (repeat' (first | exact trivial | exact rfl | (refine ⟨Or.inl rfl, ?_⟩) | (refine ⟨Or.inr rfl, ?_⟩) | (refine ⟨Or.inr trivial, ?_⟩) | (refine ⟨rfl, ?_⟩) | (refine ⟨?_, ?_⟩)))) ?_
      intro ⟨q, r⟩ hI
      dsimp only at hI
      have hql := hI.small
      have hrl := hI.rest
      have hs2 : AV.d (.sc (.int .u64 (wrp .u64 (((r : Nat) : Int) + ((y1 : Nat) : Int))))) = AV.d (.sc (.int .u64 ((r + y1 : Nat) : Int))) := by rw [wrp_d, u64_fit ⟨by omega, by omega⟩]; rfl
      by_cases hq : 4294967296 ≤ q
      · have g4 : leb 4294967296 ((q : Nat) : Int) = true := by rw [leb_t]; omega
        have ho := o2 q r hI (.inl hq)
        have hs1 : AV.d (.sc (.int .u64 (wrp .u64 (((q : Nat) : Int) - 1)))) = AV.d (.sc (.int .u64 ((q - 1 : Nat) : Int))) := by
          rw [wrp_d, u64_fit ⟨by omega, by omega⟩]
          congr 3
          omega
        by_cases hr : r + y1 < 4294967296
        · have g5 : leb 4294967296 ((r + y1 : Nat) : Int) = false := by rw [leb_f]; omega
          repeat' (first | ((with_reducible refine gA ?_); (first | refine AW_seq ?_ | refine AW_region ?_ | refine AW_condT rfl ?_ | (refine AW_condN rfl ?_ ?_; assumption) | refine AW_block ?_ | refine AW_skip ?_)) | (((with_reducible refine gS ?_); apply Es_q); rfl; rfl; (first | (refine LStep_fitAt (T := Try.tab) (Ts := []) 115 ?_ ?_ ?_ hs1; exact rfl; exact rfl; exact rfl) | (refine LStep_fitAt (T := Try.tab) (Ts := []) 118 ?_ ?_ ?_ hs2; exact rfl; exact rfl; exact rfl))) | ((with_reducible refine gS ?_); refine Es_s (T := Try.tab) rfl rfl rfl rfl ?_) | (((with_reducible refine gS ?_); apply Es_q); rfl; rfl; (refine LStep_pickT rfl rfl ?_ rfl rfl; assumption)) | (refine Es_skip rfl ?_ rfl ?_; (first | rfl | (refine w_tf ?_; assumption) | (refine w_ft ?_; assumption))) | (with_reducible refine Es_nil ?_) | (with_reducible refine then_n ?_) | (with_reducible refine block_n ?_))
          all_goals first
            | (refine ⟨(q - 1, r + y1), t2 q r hI (.inl hq) hr, by dsimp only; omega, by (repeat' (first | exact trivial | exact rfl | (refine ⟨Or.inl rfl, ?_⟩) | (refine ⟨Or.inr rfl, ?_⟩) | (refine ⟨Or.inr trivial, ?_⟩) | (refine ⟨rfl, ?_⟩) | (refine ⟨?_, ?_⟩))), by (repeat' (first | exact trivial | exact rfl | (refine ⟨Or.inl rfl, ?_⟩) | (refine ⟨Or.inr rfl, ?_⟩) | (refine ⟨Or.inr trivial, ?_⟩) | (refine ⟨rfl, ?_⟩) | (refine ⟨?_, ?_⟩))), by (repeat' (first | exact trivial | exact rfl | (refine ⟨Or.inl rfl, ?_⟩) | (refine ⟨Or.inr rfl, ?_⟩) | (refine ⟨Or.inr trivial, ?_⟩) | (refine ⟨rfl, ?_⟩) | (refine ⟨?_, ?_⟩))), by (repeat' (first | exact trivial | exact rfl | (refine ⟨Or.inl rfl, ?_⟩) | (refine ⟨Or.inr rfl, ?_⟩) | (refine ⟨Or.inr trivial, ?_⟩) | (refine ⟨rfl, ?_⟩) | (refine ⟨?_, ?_⟩)))⟩; done)
            | trace_state
        · have g5 : leb 4294967296 ((r + y1 : Nat) : Int) = true := by rw [leb_t]; omega
          have hQ := b2 q r hI (.inl hq) (by omega)
          rw [hQ] at hs1
          repeat' (first | ((with_reducible refine gA ?_); (first | refine AW_seq ?_ | refine AW_region ?_ | refine AW_condT rfl ?_ | (refine AW_condY rfl ?_ ?_; assumption) | refine AW_block ?_ | refine AW_ret ?_ | refine AW_skip ?_ | refine AW_exit ?_)) | (((with_reducible refine gS ?_); apply Es_q); rfl; rfl; (first | (refine LStep_fitAt (T := Try.tab) (Ts := []) 115 ?_ ?_ ?_ hs1; exact rfl; exact rfl; exact rfl) | (refine LStep_fitAt (T := Try.tab) (Ts := []) 118 ?_ ?_ ?_ hs2; exact rfl; exact rfl; exact rfl) | (refine LStep_fitAt (T := Try.tab) (Ts := []) 124 ?_ ?_ ?_ eR; exact rfl; exact rfl; exact rfl) | (refine LStep_fitAt (T := Try.tab) (Ts := []) 132 ?_ ?_ ?_ e28; exact rfl; exact rfl; exact rfl))) | ((with_reducible refine gS ?_); refine Es_s (T := Try.tab) rfl rfl rfl rfl ?_) | (((with_reducible refine gS ?_); apply Es_q); rfl; rfl; (refine LStep_shr rfl rfl rfl ?_ (w11 v) rfl; omega)) | (((with_reducible refine gS ?_); apply Es_q); rfl; rfl; (first | refine LStep_wrap (T := Try.tab) rfl rfl | (refine LStep_pickT rfl rfl ?_ rfl rfl; assumption))) | (refine Es_skip rfl ?_ rfl ?_; (first | rfl | (refine w_tf ?_; assumption) | (refine w_ft ?_; assumption))) | (with_reducible refine Es_nil ?_) | (with_reducible refine then_n ?_) | (with_reducible refine then_e ?_) | ((with_reducible refine block_e ?_ ?_); rfl) | ((with_reducible refine block_x ?_ ?_); rfl) | ((with_reducible refine gR ?_); first | refine ret1 rfl ?_ | refine ret2 rfl rfl ?_ | refine ret0 ?_ | refine end1 rfl ?_ | refine end0 ?_))
          all_goals first
            | rfl
            | trace_state
      · have g4 : leb 4294967296 ((q : Nat) : Int) = false := by rw [leb_f]; omega
        have hqy : q * y0 ≤ 4294967295 * 4294967295 := Nat.mul_le_mul (by omega) (by omega)
        have p1 : AV.d (.sc (.int .u64 (wrp .u64 (((q : Nat) : Int) * ((y0 : Nat) : Int))))) = AV.d (.sc (.int .u64 ((q * y0 : Nat) : Int))) := by
          rw [wrp_d, ← Int.natCast_mul]
          generalize q * y0 = p at *
          rw [u64_fit ⟨by omega, by omega⟩]
        have p2 : AV.d (.sc (.int .u64 (wrp .u64 (4294967296 * ((r : Nat) : Int))))) = AV.d (.sc (.int .u64 ((4294967296 * r : Nat) : Int))) := by rw [wrp_d, u64_fit ⟨by omega, by omega⟩]; congr 3
        have p3 : AV.d (.sc (.int .u64 (wrp .u64 (((4294967296 * r : Nat) : Int) + ((d0 : Nat) : Int))))) = AV.d (.sc (.int .u64 ((4294967296 * r + d0 : Nat) : Int))) := by rw [wrp_d, u64_fit ⟨by omega, by omega⟩]; congr 3
        by_cases hp : 4294967296 * r + d0 < q * y0
        · have g6 : ltb ((4294967296 * r + d0 : Nat) : Int) ((q * y0 : Nat) : Int) = true := by rw [ltb_t]; omega
          have ho := o2 q r hI (.inr hp)
          have hs1 : AV.d (.sc (.int .u64 (wrp .u64 (((q : Nat) : Int) - 1)))) = AV.d (.sc (.int .u64 ((q - 1 : Nat) : Int))) := by
            rw [wrp_d, u64_fit ⟨by omega, by omega⟩]
            congr 3
            omega
          by_cases hr : r + y1 < 4294967296
          · have g5 : leb 4294967296 ((r + y1 : Nat) : Int) = false := by rw [leb_f]; omega
            repeat' (first | ((with_reducible refine gA ?_); (first | refine AW_seq ?_ | refine AW_region ?_ | (refine AW_condY rfl ?_ ?_; assumption) | (refine AW_condN rfl ?_ ?_; assumption) | refine AW_block ?_ | refine AW_skip ?_)) | (((with_reducible refine gS ?_); apply Es_q); rfl; (first | rfl | (refine w_ff ?_; assumption)); (first | (refine LStep_fitAt (T := Try.tab) (Ts := []) 107 ?_ ?_ ?_ p1; exact rfl; exact rfl; exact rfl) | (refine LStep_fitAt (T := Try.tab) (Ts := []) 109 ?_ ?_ ?_ p2; exact rfl; exact rfl; exact rfl) | (refine LStep_fitAt (T := Try.tab) (Ts := []) 111 ?_ ?_ ?_ p3; exact rfl; exact rfl; exact rfl) | (refine LStep_fitAt (T := Try.tab) (Ts := []) 115 ?_ ?_ ?_ hs1; exact rfl; exact rfl; exact rfl) | (refine LStep_fitAt (T := Try.tab) (Ts := []) 118 ?_ ?_ ?_ hs2; exact rfl; exact rfl; exact rfl))) | ((with_reducible refine gS ?_); refine Es_s (T := Try.tab) rfl rfl rfl rfl ?_) | (((with_reducible refine gS ?_); apply Es_q); rfl; (first | rfl | (refine w_ff ?_; assumption)); (first | refine LStep_simp (T := Try.tab) rfl rfl | (refine LStep_pickF rfl rfl ?_ rfl rfl; assumption))) | (with_reducible refine Es_nil ?_) | (with_reducible refine then_n ?_) | (with_reducible refine block_n ?_))
            all_goals first
              | (refine ⟨(q - 1, r + y1), t2 q r hI (.inr hp) hr, by dsimp only; omega, by (repeat' (first | exact trivial | exact rfl | (refine ⟨Or.inl rfl, ?_⟩) | (refine ⟨Or.inr rfl, ?_⟩) | (refine ⟨Or.inr trivial, ?_⟩) | (refine ⟨rfl, ?_⟩) | (refine ⟨?_, ?_⟩))), by (repeat' (first | exact trivial | exact rfl | (refine ⟨Or.inl rfl, ?_⟩) | (refine ⟨Or.inr rfl, ?_⟩) | (refine ⟨Or.inr trivial, ?_⟩) | (refine ⟨rfl, ?_⟩) | (refine ⟨?_, ?_⟩))), by (repeat' (first | exact trivial | exact rfl | (refine ⟨Or.inl rfl, ?_⟩) | (refine ⟨Or.inr rfl, ?_⟩) | (refine ⟨Or.inr trivial, ?_⟩) | (refine ⟨rfl, ?_⟩) | (refine ⟨?_, ?_⟩))), by (repeat' (first | exact trivial | exact rfl | (refine ⟨Or.inl rfl, ?_⟩) | (refine ⟨Or.inr rfl, ?_⟩) | (refine ⟨Or.inr trivial, ?_⟩) | (refine ⟨rfl, ?_⟩) | (refine ⟨?_, ?_⟩)))⟩; done)
              | trace_state
          · have g5 : leb 4294967296 ((r + y1 : Nat) : Int) = true := by rw [leb_t]; omega
            have hQ := b2 q r hI (.inr hp) (by omega)
            rw [hQ] at hs1
            repeat' (first | ((with_reducible refine gA ?_); (first | refine AW_seq ?_ | refine AW_region ?_ | (refine AW_condY rfl ?_ ?_; assumption) | refine AW_block ?_ | refine AW_ret ?_ | refine AW_skip ?_ | refine AW_exit ?_)) | (((with_reducible refine gS ?_); apply Es_q); rfl; (first | rfl | (refine w_ff ?_; assumption)); (first | (refine LStep_fitAt (T := Try.tab) (Ts := []) 107 ?_ ?_ ?_ p1; exact rfl; exact rfl; exact rfl) | (refine LStep_fitAt (T := Try.tab) (Ts := []) 109 ?_ ?_ ?_ p2; exact rfl; exact rfl; exact rfl) | (refine LStep_fitAt (T := Try.tab) (Ts := []) 111 ?_ ?_ ?_ p3; exact rfl; exact rfl; exact rfl) | (refine LStep_fitAt (T := Try.tab) (Ts := []) 115 ?_ ?_ ?_ hs1; exact rfl; exact rfl; exact rfl) | (refine LStep_fitAt (T := Try.tab) (Ts := []) 118 ?_ ?_ ?_ hs2; exact rfl; exact rfl; exact rfl) | (refine LStep_fitAt (T := Try.tab) (Ts := []) 124 ?_ ?_ ?_ eR; exact rfl; exact rfl; exact rfl) | (refine LStep_fitAt (T := Try.tab) (Ts := []) 132 ?_ ?_ ?_ e28; exact rfl; exact rfl; exact rfl))) | ((with_reducible refine gS ?_); refine Es_s (T := Try.tab) rfl rfl rfl rfl ?_) | (((with_reducible refine gS ?_); apply Es_q); rfl; (first | rfl | (refine w_ff ?_; assumption)); (refine LStep_shr rfl rfl rfl ?_ (w11 v) rfl; omega)) | (((with_reducible refine gS ?_); apply Es_q); rfl; (first | rfl | (refine w_ff ?_; assumption)); (first | refine LStep_simp (T := Try.tab) rfl rfl | refine LStep_wrap (T := Try.tab) rfl rfl | (refine LStep_pickF rfl rfl ?_ rfl rfl; assumption))) | (with_reducible refine Es_nil ?_) | (with_reducible refine then_n ?_) | (with_reducible refine then_e ?_) | ((with_reducible refine block_e ?_ ?_); rfl) | ((with_reducible refine block_x ?_ ?_); rfl) | ((with_reducible refine gR ?_); first | refine ret1 rfl ?_ | refine ret2 rfl rfl ?_ | refine ret0 ?_ | refine end1 rfl ?_ | refine end0 ?_))
            all_goals first
              | rfl
              | trace_state
        · have g6 : ltb ((4294967296 * r + d0 : Nat) : Int) ((q * y0 : Nat) : Int) = false := by rw [ltb_f]; omega
          have hQ := s2 q r hI (by omega)
          subst hQ
          repeat' (first | ((with_reducible refine gA ?_); (first | refine AW_seq ?_ | refine AW_region ?_ | (refine AW_condN rfl ?_ ?_; assumption) | refine AW_ret ?_ | refine AW_exit ?_)) | (((with_reducible refine gS ?_); apply Es_q); rfl; (first | rfl | (refine w_ff ?_; assumption)); (first | (refine LStep_fitAt (T := Try.tab) (Ts := []) 107 ?_ ?_ ?_ p1; exact rfl; exact rfl; exact rfl) | (refine LStep_fitAt (T := Try.tab) (Ts := []) 109 ?_ ?_ ?_ p2; exact rfl; exact rfl; exact rfl) | (refine LStep_fitAt (T := Try.tab) (Ts := []) 111 ?_ ?_ ?_ p3; exact rfl; exact rfl; exact rfl) | (refine LStep_fitAt (T := Try.tab) (Ts := []) 124 ?_ ?_ ?_ eR; exact rfl; exact rfl; exact rfl) | (refine LStep_fitAt (T := Try.tab) (Ts := []) 132 ?_ ?_ ?_ e28; exact rfl; exact rfl; exact rfl))) | ((with_reducible refine gS ?_); refine Es_s (T := Try.tab) rfl rfl rfl rfl ?_) | (((with_reducible refine gS ?_); apply Es_q); rfl; (first | rfl | (refine w_ff ?_; assumption)); (refine LStep_shr rfl rfl rfl ?_ (w11 v) rfl; omega)) | (((with_reducible refine gS ?_); apply Es_q); rfl; (first | rfl | (refine w_ff ?_; assumption)); (first | refine LStep_simp (T := Try.tab) rfl rfl | refine LStep_wrap (T := Try.tab) rfl rfl | (refine LStep_pickF rfl rfl ?_ rfl rfl; assumption))) | (with_reducible refine Es_nil ?_) | (with_reducible refine then_n ?_) | (with_reducible refine then_e ?_) | ((with_reducible refine block_e ?_ ?_); rfl) | ((with_reducible refine gR ?_); first | refine ret1 rfl ?_ | refine ret2 rfl rfl ?_ | refine ret0 ?_ | refine end1 rfl ?_ | refine end0 ?_))
          all_goals first
            | rfl
            | trace_state
end Go.Proofs.Ytofdnkgieigncaa
