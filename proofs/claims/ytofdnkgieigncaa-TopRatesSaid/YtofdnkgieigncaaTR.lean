/- TopRates, plain: a house that changes money. -/
import Derived.Test.YtofdnkgieigncaaTA
import Derived.Test.YtofdnkgieigncaaTT
import Derived.Test.YtofdnkgieigncaaRI
import Derived.Test.YtofdnkgieigncaaRM
namespace Go.Proofs.Ytofdnkgieigncaa
open Go.SL

def vUSD : ByteArray := ⟨#[85, 83, 68]⟩
def vEUR : ByteArray := ⟨#[69, 85, 82]⟩
def vJPY : ByteArray := ⟨#[74, 80, 89]⟩
def C3 : List ByteArray := [vUSD, vEUR, vJPY]
def nOwn : ByteArray := ⟨#[111, 119, 110]⟩
def nCli : ByteArray := ⟨#[99, 108, 105, 101, 110, 116]⟩
def N2 : List ByteArray := [nOwn, nCli]
def aF (b : Int) : Acc := ⟨-1099511627776, b, 0⟩
def A3 (f : ByteArray → Int) : List (K2 × Acc) := [((nOwn, vUSD), aF (f vUSD)), ((nCli, vUSD), aF (-f vUSD)), ((nOwn, vEUR), aF (f vEUR)), ((nCli, vEUR), aF (-f vEUR)), ((nOwn, vJPY), aF (f vJPY)), ((nCli, vJPY), aF (-f vJPY))]
def A30 : List (K2 × Acc) := [((nOwn, vUSD), aF 0), ((nCli, vUSD), aF 0), ((nOwn, vEUR), aF 0), ((nCli, vEUR), aF 0), ((nOwn, vJPY), aF 0), ((nCli, vJPY), aF 0)]
theorem open_at (k j : Nat) (hk : k < 3) (hj : j < 2) : openS ⟨A30.take (2 * k + j), [], []⟩ (N2.getD j nOwn) (C3.getD k vUSD) (-1099511627776) = (⟨A30.take (2 * k + (j + 1)), [], []⟩, 0) :=
  match k, j, hk, hj with
  | 0, 0, _, _ => by kernel_rfl
  | 0, 1, _, _ => by kernel_rfl
  | 1, 0, _, _ => by kernel_rfl
  | 1, 1, _, _ => by kernel_rfl
  | 2, 0, _, _ => by kernel_rfl
  | 2, 1, _, _ => by kernel_rfl
theorem A3_nd (f : ByteArray → Int) : (akeys (A3 f)).Nodup := by
  have : akeys (A3 f) = [(nOwn, vUSD), (nCli, vUSD), (nOwn, vEUR), (nCli, vEUR), (nOwn, vJPY), (nCli, vJPY)] := rfl
  rw [this]
  decide +kernel
def swapX (fr to : ByteArray) (n m : Int) : List Ent := [⟨nCli, fr, -n⟩, ⟨nOwn, fr, n⟩, ⟨nOwn, to, -m⟩, ⟨nCli, to, m⟩]
def dlt (fr to : ByteArray) (n m : Int) (c : ByteArray) : Int := (if fr = c then n else 0) - (if to = c then m else 0)
theorem nOC : nOwn ≠ nCli := by decide +kernel
theorem esum_own (fr to c : ByteArray) (n m : Int) : esumT (nOwn, c) (swapX fr to n m) = dlt fr to n m c := by
  have hne : nCli ≠ nOwn := fun e => nOC e.symm
  simp only [swapX, esumT, Ent.key, List.map_cons, List.map_nil, List.sum_cons, List.sum_nil, Prod.mk.injEq, hne, false_and, if_false, true_and, dlt]
  by_cases h1 : fr = c <;> by_cases h2 : to = c <;> simp [h1, h2] <;> omega
theorem esum_cli (fr to c : ByteArray) (n m : Int) : esumT (nCli, c) (swapX fr to n m) = -dlt fr to n m c := by
  simp only [swapX, esumT, Ent.key, List.map_cons, List.map_nil, List.sum_cons, List.sum_nil, Prod.mk.injEq, nOC, false_and, if_false, true_and, dlt]
  by_cases h1 : fr = c <;> by_cases h2 : to = c <;> simp [h1, h2] <;> omega
theorem add_own {fr to : ByteArray} {n m : Int} (hi : ∀ e ∈ swapX fr to n m, e.in40) {f : ByteArray → Int} {c : ByteArray} (hb : -2305843009213693952 ≤ f c ∧ f c ≤ 2305843009213693952) :
    addAcc (chgL (swapX fr to n m)) (fun _ => true) ((nOwn, c), aF (f c)) = ((nOwn, c), aF (f c + dlt fr to n m c)) := by
  have h1 := addAccT (k := (nOwn, c)) (a := aF (f c)) hi (by simp [swapX]) (by show -4611686018427387904 ≤ f c ∧ f c ≤ _; omega)
  have h2 := addAcc_key (chgL (swapX fr to n m)) (fun _ => true) ((nOwn, c), aF (f c))
  rw [esum_own] at h1
  exact Prod.ext h2 h1
theorem add_cli {fr to : ByteArray} {n m : Int} (hi : ∀ e ∈ swapX fr to n m, e.in40) {f : ByteArray → Int} {c : ByteArray} (hb : -2305843009213693952 ≤ f c ∧ f c ≤ 2305843009213693952) :
    addAcc (chgL (swapX fr to n m)) (fun _ => true) ((nCli, c), aF (-f c)) = ((nCli, c), aF (-(f c + dlt fr to n m c))) := by
  have h1 := addAccT (k := (nCli, c)) (a := aF (-f c)) hi (by simp [swapX]) (by show -4611686018427387904 ≤ -f c ∧ -f c ≤ _; omega)
  have h2 := addAcc_key (chgL (swapX fr to n m)) (fun _ => true) ((nCli, c), aF (-f c))
  rw [esum_cli] at h1
  refine Prod.ext h2 (h1.trans ?_)
  show (⟨-1099511627776, -f c + -dlt fr to n m c, 0⟩ : Acc) = ⟨-1099511627776, -(f c + dlt fr to n m c), 0⟩
  congr 1
  omega
theorem A3_enter {fr to : ByteArray} {n m : Int} (hi : ∀ e ∈ swapX fr to n m, e.in40) {f : ByteArray → Int} (hb : ∀ c, -2305843009213693952 ≤ f c ∧ f c ≤ 2305843009213693952) :
    enterA (chgL (swapX fr to n m)) (A3 f) = A3 (fun c => f c + dlt fr to n m c) := by
  unfold enterA A3
  simp only [List.map_cons, List.map_nil, add_own hi (hb _), add_cli hi (hb _)]
theorem bal_at (f : ByteArray → Int) (k : Nat) (hk : k < 3) : balA (A3 f) (nOwn, C3.getD k vUSD) = f (C3.getD k vUSD) ∧ balA (A3 f) (nCli, C3.getD k vUSD) = -f (C3.getD k vUSD) := by
  have h1 : k = 0 ∨ k = 1 ∨ k = 2 := by omega
  rcases h1 with rfl | rfl | rfl <;> exact ⟨rfl, rfl⟩
theorem tot_at (f : ByteArray → Int) (k : Nat) (hk : k < 3) : curSum (C3.getD k vUSD) (A3 f) = 0 := by
  have h1 : k = 0 ∨ k = 1 ∨ k = 2 := by omega
  have n1 : vUSD ≠ vEUR := by decide +kernel
  have n2 : vUSD ≠ vJPY := by decide +kernel
  have n3 : vEUR ≠ vJPY := by decide +kernel
  rcases h1 with rfl | rfl | rfl
  · simp [curSum, A3, C3, aF, n1, n2, n1.symm, n2.symm]; omega
  · simp [curSum, A3, C3, aF, n1, n3, n1.symm, n3.symm]; omega
  · simp [curSum, A3, C3, aF, n2, n3, n2.symm, n3.symm]; omega
theorem dlt_in {fr to : ByteArray} {n m : Int} (hn : 0 ≤ n ∧ n ≤ 4294967295) (hm : 0 ≤ m ∧ m ≤ 1099511627776) (c : ByteArray) : -2199023255552 ≤ dlt fr to n m c ∧ dlt fr to n m c ≤ 2199023255552 := by
  unfold dlt
  split <;> split <;> omega
/-- behind k changes -/
structure House (k : Nat) (s : Led) (f : ByteArray → Int) : Prop where
  acc : s.A = A3 f
  bnd : ∀ c, -(2199023255552 * (k : Int)) ≤ f c ∧ f c ≤ 2199023255552 * (k : Int)
  len : s.P.length ≤ k
theorem House.zero : House 0 ⟨A30, [], []⟩ (fun _ => 0) := ⟨rfl, fun _ => ⟨by simp, by simp⟩, Nat.le_refl _⟩
theorem House.stay {k : Nat} {s : Led} {f : ByteArray → Int} (h : House k s f) : House (k + 1) s f := ⟨h.acc, fun c => by have := h.bnd c; omega, by have := h.len; omega⟩
theorem House.post {k : Nat} {s : Led} {f : ByteArray → Int} (h : House k s f) (hk : k ≤ 1000) {fr to t : ByteArray} {n m : Int} (hn : 0 ≤ n ∧ n ≤ 4294967295) (hm : 0 ≤ m ∧ m ≤ 1099511627776) (he : postE s t (swapX fr to n m) = 0) :
    House (k + 1) (enterS s t (swapX fr to n m)) (fun c => f c + dlt fr to n m c) := by
  have hr : refS s.A (swapX fr to n m) = 0 := by
    unfold postE at he
    rw [if_neg (by intro h0; rw [if_pos h0] at he; cases he)] at he
    by_cases h1 : s.P.length ≥ 4096
    · rw [if_pos h1] at he; cases he
    · rwa [if_neg h1] at he
  have hb : ∀ c, -2305843009213693952 ≤ f c ∧ f c ≤ 2305843009213693952 := fun c => by have := h.bnd c; omega
  refine ⟨?_, fun c => ?_, ?_⟩
  · show enterA (chgL (swapX fr to n m)) s.A = _
    rw [h.acc, A3_enter (refS_ok hr).2 hb]
  · have h1 := h.bnd c
    have h2 := dlt_in (fr := fr) (to := to) hn hm c
    omega
  · have := h.len
    simp [enterS]
    omega
/-! ### what a conversion tells -/
theorem conv_in {a : Int} {n d : Nat} (ha : 0 ≤ a) (hd : 0 < d) (hd2 : d < 9223372036854775808) {q : Int} {y : Int × Int} (h : convR a n d = some (q, y)) : (0 ≤ q ∧ q ≤ 1099511627776) ∧ ∃ u v : Nat, y = ((u : Int), (v : Int)) ∧ u < v ∧ v < 9223372036854775808 := by
  unfold convR scaleR at h
  split at h
  · rename_i hq
    rw [Option.map_some, Option.some.injEq, Prod.mk.injEq] at h
    obtain ⟨rfl, rfl⟩ := h
    have hs : sgn a (a.natAbs * n / d) = ((a.natAbs * n / d : Nat) : Int) := by unfold sgn; rw [if_neg (by omega)]
    have hz : ∀ z : Nat, z ≤ 1099511627776 → (0 ≤ (z : Int) ∧ (z : Int) ≤ 1099511627776) := fun z h => ⟨by omega, by omega⟩
    refine ⟨by rw [hs]; exact hz _ hq, _, _, rfl, ?_, ?_⟩
    · have hr : a.natAbs * n % d < d := Nat.mod_lt _ hd
      generalize a.natAbs * n % d = r at *
      have hg1 : Nat.gcd r d ∣ r := Nat.gcd_dvd_left r d
      have hg2 : Nat.gcd r d ∣ d := Nat.gcd_dvd_right r d
      have hg : 0 < Nat.gcd r d := Nat.gcd_pos_of_pos_right r hd
      generalize Nat.gcd r d = g at *
      exact (Nat.div_lt_div_right (by omega) hg1 hg2).2 hr
    · exact Nat.lt_of_le_of_lt (Nat.div_le_self _ _) hd2
  · cases h
theorem cvt_in {l : List RP} (hi : RInv l) {c to : ByteArray} {a : Int} (ha : 0 ≤ a) {day : Int} {q : Int} {y : Int × Int} (h : cvtR l (c, a) to day = some (q, y)) : (0 ≤ q ∧ q ≤ 1099511627776) ∧ ∃ u v : Nat, y = ((u : Int), (v : Int)) ∧ u < v ∧ v < 9223372036854775808 := by
  unfold cvtR at h
  split at h
  · cases hx : crossD l (c, a).1 to day with
    | none => rw [hx] at h; cases h
    | some z =>
      obtain ⟨x, r⟩ := z
      rw [hx] at h
      dsimp only at h
      unfold crossD at hx
      split at hx
      · obtain ⟨n, d, rfl, h1, h2, h3, h4⟩ := crossR_in hi hx
        exact conv_in ha (by simpa using h3) (by simp; omega) h
      · cases hx
  · cases h
section
open Go.SL Go.ChangeShapes Go.WideShapes Go.ChangeAt Go.RowKit

def wU (n : Nat) : List D := [.sc (.int .u32 (n : Int))]
def u8wS : List CS := [.int .u8]
def u32wS : List CS := [.sl 1 4 [.int .u32]]
theorem argK_u8w : argK Try.tab 5 = some (false, u8wS) := by kernel_rfl
theorem u8w_of {x : AV} (h : OkArg (false, u8wS) x) : ∃ n : Nat, x = .d (.sc (.int .u8 (n : Int))) ∧ n < 256 := by
  obtain ⟨d, rfl, h⟩ := h
  obtain ⟨n, rfl, hw⟩ := h.int_inv
  simp [Lit.wf, IntKind.min, IntKind.max, IntKind.signed, IntKind.bits] at hw
  exact ⟨n.toNat, by rw [Int.toNat_of_nonneg (by omega)], by omega⟩
theorem argK_u32w : argK Try.tab 23 = some (false, u32wS) := by kernel_rfl
theorem u32w_of {x : AV} (h : OkArg (false, u32wS) x) : ∃ l : List Nat, x = .d (.sl 1 (l.map wU)) ∧ l.length ≤ 140737488351232 ∧ ∀ b ∈ l, b < 4294967296 := by
  obtain ⟨d, rfl, h⟩ := h
  obtain ⟨l, rfl, hl, hp⟩ := h.list (enc := wU) (p := fun n => n < 4294967296) (fun e h => by
    obtain ⟨_, _, rfl, h1, h⟩ := h.cons_inv
    obtain rfl := h.nil_inv
    obtain ⟨n, rfl, hw⟩ := h1.int_inv
    simp [Lit.wf, IntKind.min, IntKind.max, IntKind.signed, IntKind.bits] at hw
    exact ⟨n.toNat, by unfold wU; rw [Int.toNat_of_nonneg (by omega)], by omega⟩)
  exact ⟨l, rfl, by omega, hp⟩
end
end Go.Proofs.Ytofdnkgieigncaa
