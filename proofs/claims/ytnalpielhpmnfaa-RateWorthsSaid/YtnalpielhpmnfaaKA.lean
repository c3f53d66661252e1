import Derived.Test.YtnalpielhpmnfaaRX
namespace Go.Proofs.Ytnalpielhpmnfaa
open Go.SL
/-! ### the document's Parts, Scale, Convert -/
theorem two_up {p b c : Nat} (hc : 0 < c) :
    (2 * p) * b / c = 2 * (p * b / c) + (if c ≤ 2 * (p * b % c) then 1 else 0) ∧ (2 * p) * b % c = 2 * (p * b % c) - (if c ≤ 2 * (p * b % c) then c else 0) := by
  have h1 := Nat.div_add_mod (p * b) c
  have h2 := Nat.mod_lt (p * b) hc
  have e : 2 * p * b = 2 * (p * b) := Nat.mul_assoc 2 p b
  rw [e]
  generalize p * b = x at *
  generalize hq : x / c = q at *
  generalize hr : x % c = r at *
  have h3 : 2 * x = c * (2 * q) + 2 * r := by rw [Nat.mul_left_comm]; omega
  split
  · rename_i hl
    have h4 : 2 * x = (2 * r - c) + c * (2 * q + 1) := by rw [Nat.mul_add, Nat.mul_one]; omega
    rw [h4, Nat.add_mul_div_left _ _ hc, Nat.add_mul_mod_self_left, Nat.div_eq_of_lt (by omega), Nat.mod_eq_of_lt (by omega)]
    omega
  · rename_i hl
    have h4 : 2 * x = 2 * r + c * (2 * q) := by omega
    rw [h4, Nat.add_mul_div_left _ _ hc, Nat.add_mul_mod_self_left, Nat.div_eq_of_lt (by omega), Nat.mod_eq_of_lt (by omega)]
    omega
theorem one_up {p b c : Nat} (hc : 0 < c) :
    (p + 1) * b / c = p * b / c + b / c + (if c ≤ p * b % c + b % c then 1 else 0) ∧ (p + 1) * b % c = p * b % c + b % c - (if c ≤ p * b % c + b % c then c else 0) := by
  have h1 := Nat.div_add_mod (p * b) c
  have h2 := Nat.mod_lt (p * b) hc
  have h3 := Nat.div_add_mod b c
  have h4 := Nat.mod_lt b hc
  rw [Nat.add_mul, Nat.one_mul]
  generalize p * b = x at *
  generalize x / c = q at *
  generalize x % c = r at *
  generalize b / c = u at *
  generalize b % c = v at *
  have h5 : c * (q + u) = c * q + c * u := Nat.mul_add _ _ _
  split
  · have h6 : x + b = (r + v - c) + c * (q + u + 1) := by rw [Nat.mul_add, Nat.mul_one]; omega
    rw [h6, Nat.add_mul_div_left _ _ hc, Nat.add_mul_mod_self_left, Nat.div_eq_of_lt (by omega), Nat.mod_eq_of_lt (by omega)]
    omega
  · have h6 : x + b = (r + v) + c * (q + u) := by omega
    rw [h6, Nat.add_mul_div_left _ _ hc, Nat.add_mul_mod_self_left, Nat.div_eq_of_lt (by omega), Nat.mod_eq_of_lt (by omega)]
    omega
theorem half_up2 (a i : Nat) : a / 2 ^ i = 2 * (a / 2 ^ (i + 1)) + a / 2 ^ i % 2 := by
  rw [Nat.pow_succ, ← Nat.div_div_eq_div_mul]
  omega
theorem pfx_le (a i b c : Nat) : a / 2 ^ i * b / c ≤ a * b / c := Nat.div_le_div_right (Nat.mul_le_mul_right b (Nat.div_le_self a _))
theorem kshr {a k : Nat} (hk : k ≤ 62) : ((a : Nat) : Int).fdiv (2 ^ (min (((k : Nat) : Int)).toNat IntKind.i64.bits)) = ((a / 2 ^ k : Nat) : Int) := by
  have e : min (((k : Nat) : Int)).toNat IntKind.i64.bits = k := by
    rw [Int.toNat_natCast]
    show min k 64 = k
    omega
  rw [e, Int.fdiv_eq_ediv_of_nonneg _ (Int.pow_nonneg (by decide)), Int.natCast_ediv, Int.natCast_pow]
  rfl
theorem kbit {x : Nat} (hx : x < 9223372036854775808) : andI .i64 ((x : Nat) : Int) 1 = ((x % 2 : Nat) : Int) := by
  have e1 : BitVec.ofInt IntKind.i64.bits ((x : Nat) : Int) = BitVec.ofNat 64 x := by
    show BitVec.ofInt 64 ((x : Nat) : Int) = _
    rw [BitVec.ofInt_natCast]
  have e2 : BitVec.ofInt IntKind.i64.bits 1 = BitVec.ofNat 64 1 := rfl
  unfold andI
  rw [e1, e2]
  have e3 : (BitVec.ofNat 64 x &&& BitVec.ofNat 64 1 : BitVec 64).toNat = x % 2 := by
    rw [BitVec.toNat_and, BitVec.toNat_ofNat, BitVec.toNat_ofNat, Nat.mod_eq_of_lt (show x < 2 ^ 64 by omega), show (1 : Nat) % 2 ^ 64 = 2 ^ 1 - 1 from rfl, Nat.and_two_pow_sub_one_eq_mod]
  show IntKind.i64.wrap (((BitVec.ofNat 64 x &&& BitVec.ofNat 64 1 : BitVec 64).toNat : Nat) : Int) = _
  rw [e3]
  exact IntWalk.i64_in _ (by omega)
def ptV (n num den : Nat) : AV := .tup [.d (.sc (.int .i64 (if n * num / den ≤ 2199023255552 then ((n * num / den : Nat) : Int) else -1))), .d (.sc (.int .i64 (if n * num / den ≤ 2199023255552 then ((n * num % den : Nat) : Int) else 0)))]
theorem ptV_small {n num den : Nat} (h : n * num / den ≤ 2199023255552) : ptV n num den = .tup [.d (.sc (.int .i64 ((n * num / den : Nat) : Int))), .d (.sc (.int .i64 ((n * num % den : Nat) : Int)))] := by unfold ptV; rw [if_pos h, if_pos h]
theorem ptV_big {n num den : Nat} (h : ¬ n * num / den ≤ 2199023255552) : ptV n num den = .tup [.d (.sc (.int .i64 (-1))), .d (.sc (.int .i64 0))] := by unfold ptV; rw [if_neg h, if_neg h]
set_option maxRecDepth 10000 in
set_option maxHeartbeats 16000000 in
theorem rParts_ac (n num den : Nat) (hn : n < 2199023255552) (hnum : num ≤ 1152921504606846976) (hden : 0 < den) (hden2 : den ≤ 1152921504606846976) :
    AC Try.prog 44 [.d (.sc (.int .i64 ((n : Nat) : Int))), .d (.sc (.int .i64 ((num : Nat) : Int))), .d (.sc (.int .i64 ((den : Nat) : Int)))] [] [] (fun r _ => r = ptV n num den) := by
  have hbig := @ptV_big n num den
  have hsm := @ptV_small n num den
  have h0 : n / 2 ^ (41 - 0) = 0 := Nat.div_eq_of_lt (by show n < 2199023255552; exact hn)
  have hqo : IntKind.i64.wrap (((num : Nat) : Int).tdiv ((den : Nat) : Int)) = ((num / den : Nat) : Int) := i64_quoN (by omega)
  have hre : ((num : Nat) : Int).tmod ((den : Nat) : Int) = ((num % den : Nat) : Int) := rfl
  have hv := Nat.mod_lt num hden
  have hu : num / den ≤ num := Nat.div_le_self _ _
  have hpf := fun i => pfx_le n i num den
  refine AC_enter Try.func44 rfl Try.ntmps44 (rv := [.tmp 6, .tmp 7]) rfl rfl (by simp) (fun w X G => ?_)
  repeat' (first | ((with_reducible refine gA ?_); (first | refine AW_seq ?_ | refine AW_region ?_ | refine AW_block ?_)) | ((with_reducible refine gS ?_); refine Es_s (T := Try.tab) rfl rfl rfl rfl ?_) | (with_reducible refine Es_nil ?_) | (with_reducible refine then_n ?_))
  refine AW_forE (S := Nat) (fun i => i ≤ 41 ∧ n / 2 ^ (41 - i) * num / den ≤ 2199023255552) (fun i => [(10, .d (.sc (.int .i64 ((i : Nat) : Int)))), (8, .d (.sc (.int .i64 ((n / 2 ^ (41 - i) * num / den : Nat) : Int)))), (9, .d (.sc (.int .u64 ((n / 2 ^ (41 - i) * num % den : Nat) : Int))))]) (fun _ => []) (fun i => 41 - i) 0 ⟨by omega, by rw [h0, Nat.zero_mul, Nat.zero_div]; omega⟩ (by rw [h0, Nat.zero_mul, Nat.zero_div, Nat.zero_mod]; (repeat' (first | exact trivial | exact rfl | (refine ⟨Or.inl rfl, ?_⟩) | (refine ⟨Or.inr rfl, ?_⟩) | (refine ⟨Or.inr trivial, ?_⟩) | (refine ⟨rfl, ?_⟩) | (refine ⟨?_, ?_⟩)))) (by (repeat' (first | exact trivial | exact rfl | (refine ⟨Or.inl rfl, ?_⟩) | (refine ⟨Or.inr rfl, ?_⟩) | (refine ⟨Or.inr trivial, ?_⟩) | (refine ⟨rfl, ?_⟩) | (refine ⟨?_, ?_⟩)))) ?_
  intro i ⟨hi, hle⟩
  by_cases hlt : i < 41
  · obtain ⟨k, hk⟩ : ∃ k, k + i = 40 := ⟨40 - i, by omega⟩
    have e1 : 41 - i = k + 1 := by omega
    have e2 : 41 - (i + 1) = k := by omega
    rw [e1] at hle ⊢
    have hsub : AV.d (.sc (.int .i64 (wrp .i64 (40 - ((i : Nat) : Int))))) = .d (.sc (.int .i64 ((k : Nat) : Int))) := by rw [wrp_fit (by omega), show (40 - ((i : Nat) : Int)) = (k : Int) by omega]
    have hs := kshr (a := n) (k := k) (by omega)
    have hup := half_up2 n k
    have hx : n / 2 ^ k ≤ n := Nat.div_le_self _ _
    have hbt := kbit (x := n / 2 ^ k) (by omega)
    have hfl := hpf k
    obtain ⟨d1, d2⟩ := two_up (p := n / 2 ^ (k + 1)) (b := num) hden
    obtain ⟨d3, d4⟩ := one_up (p := 2 * (n / 2 ^ (k + 1))) (b := num) hden
    have m1 := Nat.mod_lt (n / 2 ^ (k + 1) * num) hden
    have m2 := Nat.mod_lt (2 * (n / 2 ^ (k + 1)) * num) hden
    have hone : 1 ≤ n / 2 ^ k → num / den ≤ n / 2 ^ k * num / den := fun h => Nat.div_le_div_right (Nat.le_mul_of_pos_left _ h)
    have hm2 : n / 2 ^ k % 2 = 0 ∨ n / 2 ^ k % 2 = 1 := by omega
    have hE : n / 2 ^ (41 - (i + 1)) = n / 2 ^ k := by rw [e2]
    clear hpf h0
    generalize n / 2 ^ (k + 1) = p at *
    generalize n / 2 ^ k = x' at *
    generalize n * num / den = FIN at *
    generalize n * num % den = FIR at *
    rcases hm2 with hb0 | hb0
    · rw [hb0] at hbt hup
      have ex : x' = 2 * p := by omega
      subst ex
      generalize hY : 2 * p * num / den = Y at *
      generalize hZ : 2 * p * num % den = Z at *
      generalize p * num / den = q at *
      generalize p * num % den = r at *
      generalize num / den = u at *
      generalize num % den = v at *
      by_cases k1 : den ≤ 2 * r
      · rw [if_pos k1] at d1 d2
        repeat' (first | ((with_reducible refine gA ?_); (first | refine AW_seq ?_ | refine AW_region ?_ | (refine AW_cond rfl (fun hc => ?_) (fun hc => ?_) <;> try (exfalso; simp only [cmpL] at hc; omega)) | refine AW_block ?_ | refine AW_ret ?_ | refine AW_skip ?_)) | (((with_reducible refine gS ?_); apply Es_q); rfl; rfl; (first | (refine LStep_fitAt (T := Try.tab) (Ts := []) 31 ?_ ?_ ?_ hsub; exact rfl; exact rfl; exact rfl) | (refine LStep_mul rfl rfl rfl rfl ?_; (refine u64_fit ?_; omega)) | (refine LStep_sub rfl rfl rfl rfl ?_; (refine u64_fit ?_; omega)) | (refine LStep_conv (T := Try.tab) rfl rfl rfl rfl rfl ?_; (refine u64_fit ?_; omega)))) | ((with_reducible refine gS ?_); refine Es_s (T := Try.tab) rfl rfl rfl rfl ?_) | (((with_reducible refine gS ?_); apply Es_q); rfl; rfl; (first | (refine LStep_shr rfl rfl rfl ?_ hs rfl; omega) | refine LStep_and rfl rfl rfl hbt rfl)) | (((with_reducible refine gS ?_); apply Es_q); rfl; rfl; (first | (refine LStep_add rfl rfl rfl rfl ?_; (refine IntWalk.i64_in _ ?_; first | omega | (simp only [cmps] at *; omega))) | (refine LStep_mul rfl rfl rfl rfl ?_; (refine IntWalk.i64_in _ ?_; first | omega | (simp only [cmps] at *; omega))))) | (with_reducible refine Es_nil ?_) | (with_reducible refine then_n ?_) | (with_reducible refine then_r ?_) | (with_reducible refine block_n ?_) | (with_reducible refine block_r ?_) | ((with_reducible refine gR ?_); first | refine ret1 rfl ?_ | refine ret2 rfl rfl ?_ | refine ret0 ?_ | refine end1 rfl ?_ | refine end0 ?_))
        all_goals try simp only [cmps] at *
        all_goals first
          | (exfalso; omega)
          | (rw [hbig (by omega)]; done)
          | (refine ⟨i + 1, ⟨by omega, by rw [hE, hY]; omega⟩, by omega, ?_, by (repeat' (first | exact trivial | exact rfl | (refine ⟨Or.inl rfl, ?_⟩) | (refine ⟨Or.inr rfl, ?_⟩) | (refine ⟨Or.inr trivial, ?_⟩) | (refine ⟨rfl, ?_⟩) | (refine ⟨?_, ?_⟩))), by (repeat' (first | exact trivial | exact rfl | (refine ⟨Or.inl rfl, ?_⟩) | (refine ⟨Or.inr rfl, ?_⟩) | (refine ⟨Or.inr trivial, ?_⟩) | (refine ⟨rfl, ?_⟩) | (refine ⟨?_, ?_⟩))), by (repeat' (first | exact trivial | exact rfl | (refine ⟨Or.inl rfl, ?_⟩) | (refine ⟨Or.inr rfl, ?_⟩) | (refine ⟨Or.inr trivial, ?_⟩) | (refine ⟨rfl, ?_⟩) | (refine ⟨?_, ?_⟩)))⟩; rw [hE, hY, hZ, show ((Y : Nat) : Int) = 2 * ((q : Nat) : Int) + 1 by omega, show ((Z : Nat) : Int) = 2 * ((r : Nat) : Int) - ((den : Nat) : Int) by omega]; (repeat' (first | exact trivial | exact rfl | (refine ⟨Or.inl rfl, ?_⟩) | (refine ⟨Or.inr rfl, ?_⟩) | (refine ⟨Or.inr trivial, ?_⟩) | (refine ⟨rfl, ?_⟩) | (refine ⟨?_, ?_⟩))); done)
          | trace_state
      · rw [if_neg k1] at d1 d2
        repeat' (first | ((with_reducible refine gA ?_); (first | refine AW_seq ?_ | refine AW_region ?_ | (refine AW_cond rfl (fun hc => ?_) (fun hc => ?_) <;> try (exfalso; simp only [cmpL] at hc; omega)) | refine AW_block ?_ | refine AW_ret ?_ | refine AW_skip ?_)) | (((with_reducible refine gS ?_); apply Es_q); rfl; rfl; (first | (refine LStep_fitAt (T := Try.tab) (Ts := []) 31 ?_ ?_ ?_ hsub; exact rfl; exact rfl; exact rfl) | (refine LStep_mul rfl rfl rfl rfl ?_; (refine u64_fit ?_; omega)) | (refine LStep_conv (T := Try.tab) rfl rfl rfl rfl rfl ?_; (refine u64_fit ?_; omega)))) | ((with_reducible refine gS ?_); refine Es_s (T := Try.tab) rfl rfl rfl rfl ?_) | (((with_reducible refine gS ?_); apply Es_q); rfl; rfl; (first | (refine LStep_shr rfl rfl rfl ?_ hs rfl; omega) | refine LStep_and rfl rfl rfl hbt rfl)) | (((with_reducible refine gS ?_); apply Es_q); rfl; rfl; (first | (refine LStep_add rfl rfl rfl rfl ?_; (refine IntWalk.i64_in _ ?_; first | omega | (simp only [cmps] at *; omega))) | (refine LStep_mul rfl rfl rfl rfl ?_; (refine IntWalk.i64_in _ ?_; first | omega | (simp only [cmps] at *; omega))))) | (with_reducible refine Es_nil ?_) | (with_reducible refine then_n ?_) | (with_reducible refine then_r ?_) | (with_reducible refine block_n ?_) | (with_reducible refine block_r ?_) | ((with_reducible refine gR ?_); first | refine ret1 rfl ?_ | refine ret2 rfl rfl ?_ | refine ret0 ?_ | refine end1 rfl ?_ | refine end0 ?_))
        all_goals try simp only [cmps] at *
        all_goals first
          | (exfalso; omega)
          | (rw [hbig (by omega)]; done)
          | (refine ⟨i + 1, ⟨by omega, by rw [hE, hY]; omega⟩, by omega, ?_, by (repeat' (first | exact trivial | exact rfl | (refine ⟨Or.inl rfl, ?_⟩) | (refine ⟨Or.inr rfl, ?_⟩) | (refine ⟨Or.inr trivial, ?_⟩) | (refine ⟨rfl, ?_⟩) | (refine ⟨?_, ?_⟩))), by (repeat' (first | exact trivial | exact rfl | (refine ⟨Or.inl rfl, ?_⟩) | (refine ⟨Or.inr rfl, ?_⟩) | (refine ⟨Or.inr trivial, ?_⟩) | (refine ⟨rfl, ?_⟩) | (refine ⟨?_, ?_⟩))), by (repeat' (first | exact trivial | exact rfl | (refine ⟨Or.inl rfl, ?_⟩) | (refine ⟨Or.inr rfl, ?_⟩) | (refine ⟨Or.inr trivial, ?_⟩) | (refine ⟨rfl, ?_⟩) | (refine ⟨?_, ?_⟩)))⟩; rw [hE, hY, hZ, show ((Y : Nat) : Int) = 2 * ((q : Nat) : Int) by omega, show ((Z : Nat) : Int) = 2 * ((r : Nat) : Int) by omega]; (repeat' (first | exact trivial | exact rfl | (refine ⟨Or.inl rfl, ?_⟩) | (refine ⟨Or.inr rfl, ?_⟩) | (refine ⟨Or.inr trivial, ?_⟩) | (refine ⟨rfl, ?_⟩) | (refine ⟨?_, ?_⟩))); done)
          | trace_state
    · rw [hb0] at hbt hup
      have ex : x' = 2 * p + 1 := by omega
      subst ex
      have hone' := hone (by omega)
      generalize hY : (2 * p + 1) * num / den = Y at *
      generalize hZ : (2 * p + 1) * num % den = Z at *
      generalize 2 * p * num / den = y at *
      generalize 2 * p * num % den = z at *
      generalize p * num / den = q at *
      generalize p * num % den = r at *
      generalize num / den = u at *
      generalize num % den = v at *
      by_cases k1 : den ≤ 2 * r
      · rw [if_pos k1] at d1 d2
        by_cases k2 : den ≤ z + v
        · rw [if_pos k2] at d3 d4
          repeat' (first | ((with_reducible refine gA ?_); (first | refine AW_seq ?_ | refine AW_region ?_ | (refine AW_cond rfl (fun hc => ?_) (fun hc => ?_) <;> try (exfalso; simp only [cmpL] at hc; omega)) | refine AW_block ?_ | refine AW_ret ?_ | refine AW_skip ?_)) | (((with_reducible refine gS ?_); apply Es_q); rfl; rfl; (first | (refine LStep_fitAt (T := Try.tab) (Ts := []) 31 ?_ ?_ ?_ hsub; exact rfl; exact rfl; exact rfl) | (refine LStep_mul rfl rfl rfl rfl ?_; (refine u64_fit ?_; omega)) | (refine LStep_add rfl rfl rfl rfl ?_; (refine u64_fit ?_; omega)) | (refine LStep_sub rfl rfl rfl rfl ?_; (refine u64_fit ?_; omega)) | (refine LStep_conv (T := Try.tab) rfl rfl rfl rfl rfl ?_; (refine u64_fit ?_; omega)))) | ((with_reducible refine gS ?_); refine Es_s (T := Try.tab) rfl rfl rfl rfl ?_) | (((with_reducible refine gS ?_); apply Es_q); rfl; rfl; (first | (refine LStep_shr rfl rfl rfl ?_ hs rfl; omega) | refine LStep_and rfl rfl rfl hbt rfl | (refine LStep_quo rfl rfl rfl ?_ hqo rfl; omega) | (refine LStep_rem rfl rfl rfl ?_ hre rfl; omega))) | (((with_reducible refine gS ?_); apply Es_q); rfl; rfl; (first | (refine LStep_add rfl rfl rfl rfl ?_; (refine IntWalk.i64_in _ ?_; first | omega | (simp only [cmps] at *; omega))) | (refine LStep_mul rfl rfl rfl rfl ?_; (refine IntWalk.i64_in _ ?_; first | omega | (simp only [cmps] at *; omega))))) | (with_reducible refine Es_nil ?_) | (with_reducible refine then_n ?_) | (with_reducible refine then_r ?_) | (with_reducible refine block_n ?_) | (with_reducible refine block_r ?_) | ((with_reducible refine gR ?_); first | refine ret1 rfl ?_ | refine ret2 rfl rfl ?_ | refine ret0 ?_ | refine end1 rfl ?_ | refine end0 ?_))
          all_goals try simp only [cmps] at *
          all_goals first
            | (exfalso; omega)
            | (rw [hbig (by omega)]; done)
            | (refine ⟨i + 1, ⟨by omega, by rw [hE, hY]; omega⟩, by omega, ?_, by (repeat' (first | exact trivial | exact rfl | (refine ⟨Or.inl rfl, ?_⟩) | (refine ⟨Or.inr rfl, ?_⟩) | (refine ⟨Or.inr trivial, ?_⟩) | (refine ⟨rfl, ?_⟩) | (refine ⟨?_, ?_⟩))), by (repeat' (first | exact trivial | exact rfl | (refine ⟨Or.inl rfl, ?_⟩) | (refine ⟨Or.inr rfl, ?_⟩) | (refine ⟨Or.inr trivial, ?_⟩) | (refine ⟨rfl, ?_⟩) | (refine ⟨?_, ?_⟩))), by (repeat' (first | exact trivial | exact rfl | (refine ⟨Or.inl rfl, ?_⟩) | (refine ⟨Or.inr rfl, ?_⟩) | (refine ⟨Or.inr trivial, ?_⟩) | (refine ⟨rfl, ?_⟩) | (refine ⟨?_, ?_⟩)))⟩; rw [hE, hY, hZ, show ((Y : Nat) : Int) = 2 * ((q : Nat) : Int) + 1 + ((u : Nat) : Int) + 1 by omega, show ((Z : Nat) : Int) = 2 * ((r : Nat) : Int) - ((den : Nat) : Int) + ((v : Nat) : Int) - ((den : Nat) : Int) by omega]; (repeat' (first | exact trivial | exact rfl | (refine ⟨Or.inl rfl, ?_⟩) | (refine ⟨Or.inr rfl, ?_⟩) | (refine ⟨Or.inr trivial, ?_⟩) | (refine ⟨rfl, ?_⟩) | (refine ⟨?_, ?_⟩))); done)
            | trace_state
        · rw [if_neg k2] at d3 d4
          repeat' (first | ((with_reducible refine gA ?_); (first | refine AW_seq ?_ | refine AW_region ?_ | (refine AW_cond rfl (fun hc => ?_) (fun hc => ?_) <;> try (exfalso; simp only [cmpL] at hc; omega)) | refine AW_block ?_ | refine AW_ret ?_ | refine AW_skip ?_)) | (((with_reducible refine gS ?_); apply Es_q); rfl; rfl; (first | (refine LStep_fitAt (T := Try.tab) (Ts := []) 31 ?_ ?_ ?_ hsub; exact rfl; exact rfl; exact rfl) | (refine LStep_mul rfl rfl rfl rfl ?_; (refine u64_fit ?_; omega)) | (refine LStep_add rfl rfl rfl rfl ?_; (refine u64_fit ?_; omega)) | (refine LStep_sub rfl rfl rfl rfl ?_; (refine u64_fit ?_; omega)) | (refine LStep_conv (T := Try.tab) rfl rfl rfl rfl rfl ?_; (refine u64_fit ?_; omega)))) | ((with_reducible refine gS ?_); refine Es_s (T := Try.tab) rfl rfl rfl rfl ?_) | (((with_reducible refine gS ?_); apply Es_q); rfl; rfl; (first | (refine LStep_shr rfl rfl rfl ?_ hs rfl; omega) | refine LStep_and rfl rfl rfl hbt rfl | (refine LStep_quo rfl rfl rfl ?_ hqo rfl; omega) | (refine LStep_rem rfl rfl rfl ?_ hre rfl; omega))) | (((with_reducible refine gS ?_); apply Es_q); rfl; rfl; (first | (refine LStep_add rfl rfl rfl rfl ?_; (refine IntWalk.i64_in _ ?_; first | omega | (simp only [cmps] at *; omega))) | (refine LStep_mul rfl rfl rfl rfl ?_; (refine IntWalk.i64_in _ ?_; first | omega | (simp only [cmps] at *; omega))))) | (with_reducible refine Es_nil ?_) | (with_reducible refine then_n ?_) | (with_reducible refine then_r ?_) | (with_reducible refine block_n ?_) | (with_reducible refine block_r ?_) | ((with_reducible refine gR ?_); first | refine ret1 rfl ?_ | refine ret2 rfl rfl ?_ | refine ret0 ?_ | refine end1 rfl ?_ | refine end0 ?_))
          all_goals try simp only [cmps] at *
          all_goals first
            | (exfalso; omega)
            | (rw [hbig (by omega)]; done)
            | (refine ⟨i + 1, ⟨by omega, by rw [hE, hY]; omega⟩, by omega, ?_, by (repeat' (first | exact trivial | exact rfl | (refine ⟨Or.inl rfl, ?_⟩) | (refine ⟨Or.inr rfl, ?_⟩) | (refine ⟨Or.inr trivial, ?_⟩) | (refine ⟨rfl, ?_⟩) | (refine ⟨?_, ?_⟩))), by (repeat' (first | exact trivial | exact rfl | (refine ⟨Or.inl rfl, ?_⟩) | (refine ⟨Or.inr rfl, ?_⟩) | (refine ⟨Or.inr trivial, ?_⟩) | (refine ⟨rfl, ?_⟩) | (refine ⟨?_, ?_⟩))), by (repeat' (first | exact trivial | exact rfl | (refine ⟨Or.inl rfl, ?_⟩) | (refine ⟨Or.inr rfl, ?_⟩) | (refine ⟨Or.inr trivial, ?_⟩) | (refine ⟨rfl, ?_⟩) | (refine ⟨?_, ?_⟩)))⟩; rw [hE, hY, hZ, show ((Y : Nat) : Int) = 2 * ((q : Nat) : Int) + 1 + ((u : Nat) : Int) by omega, show ((Z : Nat) : Int) = 2 * ((r : Nat) : Int) - ((den : Nat) : Int) + ((v : Nat) : Int) by omega]; (repeat' (first | exact trivial | exact rfl | (refine ⟨Or.inl rfl, ?_⟩) | (refine ⟨Or.inr rfl, ?_⟩) | (refine ⟨Or.inr trivial, ?_⟩) | (refine ⟨rfl, ?_⟩) | (refine ⟨?_, ?_⟩))); done)
            | trace_state
      · rw [if_neg k1] at d1 d2
        by_cases k2 : den ≤ z + v
        · rw [if_pos k2] at d3 d4
          repeat' (first | ((with_reducible refine gA ?_); (first | refine AW_seq ?_ | refine AW_region ?_ | (refine AW_cond rfl (fun hc => ?_) (fun hc => ?_) <;> try (exfalso; simp only [cmpL] at hc; omega)) | refine AW_block ?_ | refine AW_ret ?_ | refine AW_skip ?_)) | (((with_reducible refine gS ?_); apply Es_q); rfl; rfl; (first | (refine LStep_fitAt (T := Try.tab) (Ts := []) 31 ?_ ?_ ?_ hsub; exact rfl; exact rfl; exact rfl) | (refine LStep_mul rfl rfl rfl rfl ?_; (refine u64_fit ?_; omega)) | (refine LStep_add rfl rfl rfl rfl ?_; (refine u64_fit ?_; omega)) | (refine LStep_sub rfl rfl rfl rfl ?_; (refine u64_fit ?_; omega)) | (refine LStep_conv (T := Try.tab) rfl rfl rfl rfl rfl ?_; (refine u64_fit ?_; omega)))) | ((with_reducible refine gS ?_); refine Es_s (T := Try.tab) rfl rfl rfl rfl ?_) | (((with_reducible refine gS ?_); apply Es_q); rfl; rfl; (first | (refine LStep_shr rfl rfl rfl ?_ hs rfl; omega) | refine LStep_and rfl rfl rfl hbt rfl | (refine LStep_quo rfl rfl rfl ?_ hqo rfl; omega) | (refine LStep_rem rfl rfl rfl ?_ hre rfl; omega))) | (((with_reducible refine gS ?_); apply Es_q); rfl; rfl; (first | (refine LStep_add rfl rfl rfl rfl ?_; (refine IntWalk.i64_in _ ?_; first | omega | (simp only [cmps] at *; omega))) | (refine LStep_mul rfl rfl rfl rfl ?_; (refine IntWalk.i64_in _ ?_; first | omega | (simp only [cmps] at *; omega))))) | (with_reducible refine Es_nil ?_) | (with_reducible refine then_n ?_) | (with_reducible refine then_r ?_) | (with_reducible refine block_n ?_) | (with_reducible refine block_r ?_) | ((with_reducible refine gR ?_); first | refine ret1 rfl ?_ | refine ret2 rfl rfl ?_ | refine ret0 ?_ | refine end1 rfl ?_ | refine end0 ?_))
          all_goals try simp only [cmps] at *
          all_goals first
            | (exfalso; omega)
            | (rw [hbig (by omega)]; done)
            | (refine ⟨i + 1, ⟨by omega, by rw [hE, hY]; omega⟩, by omega, ?_, by (repeat' (first | exact trivial | exact rfl | (refine ⟨Or.inl rfl, ?_⟩) | (refine ⟨Or.inr rfl, ?_⟩) | (refine ⟨Or.inr trivial, ?_⟩) | (refine ⟨rfl, ?_⟩) | (refine ⟨?_, ?_⟩))), by (repeat' (first | exact trivial | exact rfl | (refine ⟨Or.inl rfl, ?_⟩) | (refine ⟨Or.inr rfl, ?_⟩) | (refine ⟨Or.inr trivial, ?_⟩) | (refine ⟨rfl, ?_⟩) | (refine ⟨?_, ?_⟩))), by (repeat' (first | exact trivial | exact rfl | (refine ⟨Or.inl rfl, ?_⟩) | (refine ⟨Or.inr rfl, ?_⟩) | (refine ⟨Or.inr trivial, ?_⟩) | (refine ⟨rfl, ?_⟩) | (refine ⟨?_, ?_⟩)))⟩; rw [hE, hY, hZ, show ((Y : Nat) : Int) = 2 * ((q : Nat) : Int) + ((u : Nat) : Int) + 1 by omega, show ((Z : Nat) : Int) = 2 * ((r : Nat) : Int) + ((v : Nat) : Int) - ((den : Nat) : Int) by omega]; (repeat' (first | exact trivial | exact rfl | (refine ⟨Or.inl rfl, ?_⟩) | (refine ⟨Or.inr rfl, ?_⟩) | (refine ⟨Or.inr trivial, ?_⟩) | (refine ⟨rfl, ?_⟩) | (refine ⟨?_, ?_⟩))); done)
            | trace_state
        · rw [if_neg k2] at d3 d4
          repeat' (first | ((with_reducible refine gA ?_); (first | refine AW_seq ?_ | refine AW_region ?_ | (refine AW_cond rfl (fun hc => ?_) (fun hc => ?_) <;> try (exfalso; simp only [cmpL] at hc; omega)) | refine AW_block ?_ | refine AW_ret ?_ | refine AW_skip ?_)) | (((with_reducible refine gS ?_); apply Es_q); rfl; rfl; (first | (refine LStep_fitAt (T := Try.tab) (Ts := []) 31 ?_ ?_ ?_ hsub; exact rfl; exact rfl; exact rfl) | (refine LStep_mul rfl rfl rfl rfl ?_; (refine u64_fit ?_; omega)) | (refine LStep_add rfl rfl rfl rfl ?_; (refine u64_fit ?_; omega)) | (refine LStep_conv (T := Try.tab) rfl rfl rfl rfl rfl ?_; (refine u64_fit ?_; omega)))) | ((with_reducible refine gS ?_); refine Es_s (T := Try.tab) rfl rfl rfl rfl ?_) | (((with_reducible refine gS ?_); apply Es_q); rfl; rfl; (first | (refine LStep_shr rfl rfl rfl ?_ hs rfl; omega) | refine LStep_and rfl rfl rfl hbt rfl | (refine LStep_quo rfl rfl rfl ?_ hqo rfl; omega) | (refine LStep_rem rfl rfl rfl ?_ hre rfl; omega))) | (((with_reducible refine gS ?_); apply Es_q); rfl; rfl; (first | (refine LStep_add rfl rfl rfl rfl ?_; (refine IntWalk.i64_in _ ?_; first | omega | (simp only [cmps] at *; omega))) | (refine LStep_mul rfl rfl rfl rfl ?_; (refine IntWalk.i64_in _ ?_; first | omega | (simp only [cmps] at *; omega))))) | (with_reducible refine Es_nil ?_) | (with_reducible refine then_n ?_) | (with_reducible refine then_r ?_) | (with_reducible refine block_n ?_) | (with_reducible refine block_r ?_) | ((with_reducible refine gR ?_); first | refine ret1 rfl ?_ | refine ret2 rfl rfl ?_ | refine ret0 ?_ | refine end1 rfl ?_ | refine end0 ?_))
          all_goals try simp only [cmps] at *
          all_goals first
            | (exfalso; omega)
            | (rw [hbig (by omega)]; done)
            | (refine ⟨i + 1, ⟨by omega, by rw [hE, hY]; omega⟩, by omega, ?_, by (repeat' (first | exact trivial | exact rfl | (refine ⟨Or.inl rfl, ?_⟩) | (refine ⟨Or.inr rfl, ?_⟩) | (refine ⟨Or.inr trivial, ?_⟩) | (refine ⟨rfl, ?_⟩) | (refine ⟨?_, ?_⟩))), by (repeat' (first | exact trivial | exact rfl | (refine ⟨Or.inl rfl, ?_⟩) | (refine ⟨Or.inr rfl, ?_⟩) | (refine ⟨Or.inr trivial, ?_⟩) | (refine ⟨rfl, ?_⟩) | (refine ⟨?_, ?_⟩))), by (repeat' (first | exact trivial | exact rfl | (refine ⟨Or.inl rfl, ?_⟩) | (refine ⟨Or.inr rfl, ?_⟩) | (refine ⟨Or.inr trivial, ?_⟩) | (refine ⟨rfl, ?_⟩) | (refine ⟨?_, ?_⟩)))⟩; rw [hE, hY, hZ, show ((Y : Nat) : Int) = 2 * ((q : Nat) : Int) + ((u : Nat) : Int) by omega, show ((Z : Nat) : Int) = 2 * ((r : Nat) : Int) + ((v : Nat) : Int) by omega]; (repeat' (first | exact trivial | exact rfl | (refine ⟨Or.inl rfl, ?_⟩) | (refine ⟨Or.inr rfl, ?_⟩) | (refine ⟨Or.inr trivial, ?_⟩) | (refine ⟨rfl, ?_⟩) | (refine ⟨?_, ?_⟩))); done)
            | trace_state
  · have hie : i = 41 := by omega
    subst hie
    have h1 : n / 2 ^ (41 - 41) = n := by show n / 1 = n; exact Nat.div_one n
    rw [h1] at hle ⊢
    rw [hsm hle]
    have m1 := Nat.mod_lt (n * num) hden
    clear hsm hbig hpf
    generalize n * num / den = FIN at *
    generalize n * num % den = FIR at *
    repeat' (first | ((with_reducible refine gA ?_); (first | refine AW_seq ?_ | refine AW_region ?_ | (refine AW_cond rfl (fun hc => ?_) (fun hc => ?_) <;> try (exfalso; simp only [cmpL] at hc; omega)) | refine AW_ret ?_ | refine AW_exit ?_)) | ((with_reducible refine gS ?_); refine Es_s (T := Try.tab) rfl rfl rfl rfl ?_) | (((with_reducible refine gS ?_); apply Es_q); rfl; rfl; (refine LStep_conv (T := Try.tab) rfl rfl rfl rfl rfl ?_; (refine IntWalk.i64_in _ ?_; first | omega | (simp only [cmps] at *; omega)))) | (with_reducible refine Es_nil ?_) | (with_reducible refine then_n ?_) | (with_reducible refine then_e ?_) | ((with_reducible refine block_e ?_ ?_); rfl) | ((with_reducible refine gR ?_); first | refine ret1 rfl ?_ | refine ret2 rfl rfl ?_ | refine ret0 ?_ | refine end1 rfl ?_ | refine end0 ?_))
    all_goals try simp only [cmps] at *
    all_goals first
      | rfl
      | (exfalso; omega)
      | trace_state
end Go.Proofs.Ytnalpielhpmnfaa
