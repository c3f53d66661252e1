import Derived.Test.YtldfncafkdmoiaaFX
import Derived.Test.YtldfncafkdmoiaaFJ
namespace Go.Proofs.Ytldfncafkdmoiaa
open Go.SL
/-! ### the document's Times and Split -/
theorem i64_shr {a k : Nat} (hk : k ≤ 62) : ((a : Nat) : Int).fdiv (2 ^ (min (((k : Nat) : Int)).toNat IntKind.i64.bits)) = ((a / 2 ^ k : Nat) : Int) := by
  have e : min (((k : Nat) : Int)).toNat IntKind.i64.bits = k := by
    rw [Int.toNat_natCast]
    show min k 64 = k
    omega
  rw [e, Int.fdiv_eq_ediv_of_nonneg _ (Int.pow_nonneg (by decide)), Int.natCast_ediv, Int.natCast_pow]
  rfl
theorem i64_bit {x : Nat} (hx : x < 9223372036854775808) : andI .i64 ((x : Nat) : Int) 1 = ((x % 2 : Nat) : Int) := by
  have e1 : BitVec.ofInt IntKind.i64.bits ((x : Nat) : Int) = BitVec.ofNat 64 x := by
    show BitVec.ofInt 64 ((x : Nat) : Int) = _
    rw [BitVec.ofInt_natCast]
  have e2 : BitVec.ofInt IntKind.i64.bits 1 = BitVec.ofNat 64 1 := rfl
  unfold andI
  rw [e1, e2]
  have e3 : (BitVec.ofNat 64 x &&& BitVec.ofNat 64 1 : BitVec 64).toNat = x % 2 := by
    rw [BitVec.toNat_and, BitVec.toNat_ofNat, BitVec.toNat_ofNat, Nat.mod_eq_of_lt (show x < 2 ^ 64 by omega), show (1 : Nat) % 2 ^ 64 = 2 ^ 1 - 1 from rfl, Nat.and_two_pow_sub_one_eq_mod]
  show IntKind.i64.wrap (((BitVec.ofNat 64 x &&& BitVec.ofNat 64 1 : BitVec 64).toNat : Nat) : Int) = _
  rw [e3]
  exact IntWalk.i64_in _ (by omega)
theorem i64_quo {a b : Nat} (h : a < 9223372036854775808) : IntKind.i64.wrap (((a : Nat) : Int).tdiv ((b : Nat) : Int)) = ((a / b : Nat) : Int) := by
  have : ((a : Nat) : Int).tdiv ((b : Nat) : Int) = ((a / b : Nat) : Int) := rfl
  have hl := Nat.div_le_self a b
  rw [this]
  generalize a / b = q at *
  exact IntWalk.i64_in _ (by omega)
set_option maxRecDepth 10000 in
set_option maxHeartbeats 8000000 in
theorem times_ac (a b c : Nat) (hc : 0 < c) (hbc : b ≤ c) (ha : a ≤ 1099511627776) (hcm : c ≤ 45079976738816) :
    AC Try.prog 55 [.d (.sc (.int .i64 ((a : Nat) : Int))), .d (.sc (.int .i64 ((b : Nat) : Int))), .d (.sc (.int .i64 ((c : Nat) : Int)))] [] [] (fun r _ => r = .tup [.d (.sc (.int .i64 ((a * b / c : Nat) : Int))), .d (.sc (.int .i64 ((a * b % c : Nat) : Int)))]) := by
  have h63 : a / 2 ^ 63 = 0 := Nat.div_eq_of_lt (by omega)
  have hnn : ((c : Nat) : Int) ≠ 0 := by omega
  have hbq := i64_quo (a := b) (b := c) (by omega)
  have hbr : ((b : Nat) : Int).tmod ((c : Nat) : Int) = ((b % c : Nat) : Int) := rfl
  have hb1 : b / c ≤ 1 := by rw [Nat.div_le_iff_le_mul_add_pred hc]; omega
  have hb2 := Nat.mod_lt b hc
  refine AC_enter Try.func55 rfl Try.ntmps55 (rv := [.tmp 6, .tmp 7]) rfl rfl (by simp) (fun w X G => ?_)
  repeat' (first | ((with_reducible refine gA ?_); (first | refine AW_seq ?_ | refine AW_region ?_ | refine AW_block ?_)) | ((with_reducible refine gS ?_); refine Es_s (T := Try.tab) rfl rfl rfl rfl ?_) | (with_reducible refine Es_nil ?_) | (with_reducible refine then_n ?_))
  refine AW_forE (S := Nat) (fun i => i ≤ 63) (fun i => [(10, .d (.sc (.int .i64 (((i : Nat) : Int) - 1)))), (8, .d (.sc (.int .i64 ((a / 2 ^ i * b / c : Nat) : Int)))), (9, .d (.sc (.int .i64 ((a / 2 ^ i * b % c : Nat) : Int))))]) (fun _ => []) (fun i => i) 63 (by omega) (by rw [h63, Nat.zero_mul, Nat.zero_div, Nat.zero_mod]; (repeat' (first | exact trivial | exact rfl | (refine ⟨Or.inl rfl, ?_⟩) | (refine ⟨Or.inr rfl, ?_⟩) | (refine ⟨Or.inr trivial, ?_⟩) | (refine ⟨rfl, ?_⟩) | (refine ⟨?_, ?_⟩)))) (by (repeat' (first | exact trivial | exact rfl | (refine ⟨Or.inl rfl, ?_⟩) | (refine ⟨Or.inr rfl, ?_⟩) | (refine ⟨Or.inr trivial, ?_⟩) | (refine ⟨rfl, ?_⟩) | (refine ⟨?_, ?_⟩)))) ?_
  intro i hi
  by_cases h0 : 0 < i
  · obtain ⟨k, rfl⟩ : ∃ k, i = k + 1 := ⟨i - 1, by omega⟩
    have ek : (((k + 1 : Nat) : Int) - 1) = ((k : Nat) : Int) := by omega
    rw [ek]
    have g0 : leb 0 ((k : Nat) : Int) = true := by rw [leb_t]; omega
    have hs := i64_shr (a := a) (k := k) (by omega)
    have hx : a / 2 ^ k < 9223372036854775808 := Nat.lt_of_le_of_lt (Nat.div_le_self _ _) (by omega)
    have hxa : a / 2 ^ k ≤ 1099511627776 := Nat.le_trans (Nat.div_le_self _ _) ha
    have hbt := i64_bit hx
    have hup := half_up a k
    obtain ⟨d1, d2⟩ := times_two (p := a / 2 ^ (k + 1)) hc hbc
    obtain ⟨d3, d4⟩ := times_one (p := 2 * (a / 2 ^ (k + 1))) (b := b) hc
    have m1 := Nat.mod_lt (a / 2 ^ (k + 1) * b) hc
    have hq : ∀ p, p * b / c ≤ p := fun p => by
      rw [Nat.div_le_iff_le_mul_add_pred hc]
      have := Nat.mul_le_mul_left p hbc
      rw [Nat.mul_comm p c] at this
      omega
    have hq1 := hq (a / 2 ^ (k + 1))
    have hm2 : a / 2 ^ k % 2 = 0 ∨ a / 2 ^ k % 2 = 1 := by omega
    clear hx hq h63
    generalize hp : a / 2 ^ (k + 1) = p at *
    generalize hx : a / 2 ^ k = x at *
    generalize hqq : p * b / c = q at *
    generalize hrr : p * b % c = r at *
    generalize hu : b / c = u at *
    generalize hv : b % c = v at *
    have hpx : p ≤ 1099511627776 := by omega
    have s1 : AV.d (.sc (.int .i64 (wrp .i64 (2 * ((q : Nat) : Int))))) = AV.d (.sc (.int .i64 ((2 * q : Nat) : Int))) := by rw [wrp_fit (by omega)]; congr 3
    have s2 : AV.d (.sc (.int .i64 (wrp .i64 (2 * ((r : Nat) : Int))))) = AV.d (.sc (.int .i64 ((2 * r : Nat) : Int))) := by rw [wrp_fit (by omega)]; congr 3
    by_cases h1 : c ≤ 2 * r
    · rw [if_pos h1] at d1 d2
      generalize hq2 : 2 * q = q2 at *
      generalize hr2 : 2 * r = r2 at *
      have g1 : leb ((c : Nat) : Int) ((r2 : Nat) : Int) = true := by rw [leb_t]; omega
      have s3 : AV.d (.sc (.int .i64 (wrp .i64 (((q2 : Nat) : Int) + 1)))) = AV.d (.sc (.int .i64 ((q2 + 1 : Nat) : Int))) := by rw [wrp_fit (by omega)]; congr 3
      have s4 : AV.d (.sc (.int .i64 (wrp .i64 (((r2 : Nat) : Int) - ((c : Nat) : Int))))) = AV.d (.sc (.int .i64 ((r2 - c : Nat) : Int))) := by rw [wrp_fit (by omega)]; congr 3; omega
      rcases hm2 with hb0 | hb0
      · have g2 : eqb ((0 : Nat) : Int) 1 = false := by rw [eqb_f]; omega
        rw [hb0] at hbt
        repeat' (first | ((with_reducible refine gA ?_); (first | refine AW_seq ?_ | refine AW_region ?_ | (refine AW_condY rfl ?_ ?_; assumption) | (refine AW_condN rfl ?_ ?_; assumption) | refine AW_block ?_ | refine AW_skip ?_)) | (((with_reducible refine gS ?_); apply Es_q); rfl; rfl; (first | refine LStep_fitQ (T := Try.tab) rfl rfl s1 | refine LStep_fitQ (T := Try.tab) rfl rfl s2 | refine LStep_fitQ (T := Try.tab) rfl rfl s3 | refine LStep_fitQ (T := Try.tab) rfl rfl s4)) | ((with_reducible refine gS ?_); refine Es_s (T := Try.tab) rfl rfl rfl rfl ?_) | (((with_reducible refine gS ?_); apply Es_q); rfl; rfl; (first | (refine LStep_shr rfl rfl rfl ?_ hs rfl; omega) | refine LStep_and rfl rfl rfl hbt rfl)) | (((with_reducible refine gS ?_); apply Es_q); rfl; rfl; (refine LStep_sub rfl rfl rfl rfl ?_; (refine IntWalk.i64_in _ ?_; first | omega | (simp only [cmps] at *; omega)))) | (with_reducible refine Es_nil ?_) | (with_reducible refine then_n ?_) | (with_reducible refine block_n ?_))
        all_goals first
          | (refine ⟨k, by omega, by omega, ?_, by (repeat' (first | exact trivial | exact rfl | (refine ⟨Or.inl rfl, ?_⟩) | (refine ⟨Or.inr rfl, ?_⟩) | (refine ⟨Or.inr trivial, ?_⟩) | (refine ⟨rfl, ?_⟩) | (refine ⟨?_, ?_⟩))), by (repeat' (first | exact trivial | exact rfl | (refine ⟨Or.inl rfl, ?_⟩) | (refine ⟨Or.inr rfl, ?_⟩) | (refine ⟨Or.inr trivial, ?_⟩) | (refine ⟨rfl, ?_⟩) | (refine ⟨?_, ?_⟩))), by (repeat' (first | exact trivial | exact rfl | (refine ⟨Or.inl rfl, ?_⟩) | (refine ⟨Or.inr rfl, ?_⟩) | (refine ⟨Or.inr trivial, ?_⟩) | (refine ⟨rfl, ?_⟩) | (refine ⟨?_, ?_⟩)))⟩
             rw [hx, show x = 2 * p by omega, d1, d2]; (repeat' (first | exact trivial | exact rfl | (refine ⟨Or.inl rfl, ?_⟩) | (refine ⟨Or.inr rfl, ?_⟩) | (refine ⟨Or.inr trivial, ?_⟩) | (refine ⟨rfl, ?_⟩) | (refine ⟨?_, ?_⟩))))
          | trace_state
      · have g2 : eqb ((1 : Nat) : Int) 1 = true := by rw [eqb_t]; omega
        rw [hb0] at hbt
        have ex : x = 2 * p + 1 := by omega
        rw [d1, d2] at d3
        rw [d2] at d4
        have s5 : AV.d (.sc (.int .i64 (wrp .i64 (((q2 + 1 : Nat) : Int) + ((u : Nat) : Int))))) = AV.d (.sc (.int .i64 ((q2 + 1 + u : Nat) : Int))) := by rw [wrp_fit (by omega)]; congr 3
        have s6 : AV.d (.sc (.int .i64 (wrp .i64 (((r2 - c : Nat) : Int) + ((v : Nat) : Int))))) = AV.d (.sc (.int .i64 ((r2 - c + v : Nat) : Int))) := by rw [wrp_fit (by omega)]; congr 3
        by_cases h3 : c ≤ r2 - c + v
        · rw [if_pos h3] at d3 d4
          have g3 : leb ((c : Nat) : Int) ((r2 - c + v : Nat) : Int) = true := by rw [leb_t]; omega
          have s7 : AV.d (.sc (.int .i64 (wrp .i64 (((q2 + 1 + u : Nat) : Int) + 1)))) = AV.d (.sc (.int .i64 ((q2 + 1 + u + 1 : Nat) : Int))) := by rw [wrp_fit (by omega)]; congr 3
          have s8 : AV.d (.sc (.int .i64 (wrp .i64 (((r2 - c + v : Nat) : Int) - ((c : Nat) : Int))))) = AV.d (.sc (.int .i64 ((r2 - c + v - c : Nat) : Int))) := by rw [wrp_fit (by omega)]; congr 3; omega
          repeat' (first | ((with_reducible refine gA ?_); (first | refine AW_seq ?_ | refine AW_region ?_ | (refine AW_condY rfl ?_ ?_; assumption) | refine AW_block ?_ | refine AW_skip ?_)) | (((with_reducible refine gS ?_); apply Es_q); rfl; rfl; (first | refine LStep_fitQ (T := Try.tab) rfl rfl s1 | refine LStep_fitQ (T := Try.tab) rfl rfl s2 | refine LStep_fitQ (T := Try.tab) rfl rfl s3 | refine LStep_fitQ (T := Try.tab) rfl rfl s4 | refine LStep_fitQ (T := Try.tab) rfl rfl s5 | refine LStep_fitQ (T := Try.tab) rfl rfl s6 | refine LStep_fitQ (T := Try.tab) rfl rfl s7 | refine LStep_fitQ (T := Try.tab) rfl rfl s8)) | ((with_reducible refine gS ?_); refine Es_s (T := Try.tab) rfl rfl rfl rfl ?_) | (((with_reducible refine gS ?_); apply Es_q); rfl; rfl; (first | (refine LStep_shr rfl rfl rfl ?_ hs rfl; omega) | refine LStep_and rfl rfl rfl hbt rfl | refine LStep_quo rfl rfl rfl hnn hbq rfl | refine LStep_rem rfl rfl rfl hnn hbr rfl)) | (((with_reducible refine gS ?_); apply Es_q); rfl; rfl; (refine LStep_sub rfl rfl rfl rfl ?_; (refine IntWalk.i64_in _ ?_; first | omega | (simp only [cmps] at *; omega)))) | (with_reducible refine Es_nil ?_) | (with_reducible refine then_n ?_) | (with_reducible refine block_n ?_))
          all_goals first
            | (refine ⟨k, by omega, by omega, ?_, by (repeat' (first | exact trivial | exact rfl | (refine ⟨Or.inl rfl, ?_⟩) | (refine ⟨Or.inr rfl, ?_⟩) | (refine ⟨Or.inr trivial, ?_⟩) | (refine ⟨rfl, ?_⟩) | (refine ⟨?_, ?_⟩))), by (repeat' (first | exact trivial | exact rfl | (refine ⟨Or.inl rfl, ?_⟩) | (refine ⟨Or.inr rfl, ?_⟩) | (refine ⟨Or.inr trivial, ?_⟩) | (refine ⟨rfl, ?_⟩) | (refine ⟨?_, ?_⟩))), by (repeat' (first | exact trivial | exact rfl | (refine ⟨Or.inl rfl, ?_⟩) | (refine ⟨Or.inr rfl, ?_⟩) | (refine ⟨Or.inr trivial, ?_⟩) | (refine ⟨rfl, ?_⟩) | (refine ⟨?_, ?_⟩)))⟩
               rw [hx, ex, d3, d4]; (repeat' (first | exact trivial | exact rfl | (refine ⟨Or.inl rfl, ?_⟩) | (refine ⟨Or.inr rfl, ?_⟩) | (refine ⟨Or.inr trivial, ?_⟩) | (refine ⟨rfl, ?_⟩) | (refine ⟨?_, ?_⟩))))
            | trace_state
        · rw [if_neg h3] at d3 d4
          have g3 : leb ((c : Nat) : Int) ((r2 - c + v : Nat) : Int) = false := by rw [leb_f]; omega
          repeat' (first | ((with_reducible refine gA ?_); (first | refine AW_seq ?_ | refine AW_region ?_ | (refine AW_condY rfl ?_ ?_; assumption) | (refine AW_condN rfl ?_ ?_; assumption) | refine AW_block ?_ | refine AW_skip ?_)) | (((with_reducible refine gS ?_); apply Es_q); rfl; rfl; (first | refine LStep_fitQ (T := Try.tab) rfl rfl s1 | refine LStep_fitQ (T := Try.tab) rfl rfl s2 | refine LStep_fitQ (T := Try.tab) rfl rfl s3 | refine LStep_fitQ (T := Try.tab) rfl rfl s4 | refine LStep_fitQ (T := Try.tab) rfl rfl s5 | refine LStep_fitQ (T := Try.tab) rfl rfl s6)) | ((with_reducible refine gS ?_); refine Es_s (T := Try.tab) rfl rfl rfl rfl ?_) | (((with_reducible refine gS ?_); apply Es_q); rfl; rfl; (first | (refine LStep_shr rfl rfl rfl ?_ hs rfl; omega) | refine LStep_and rfl rfl rfl hbt rfl | refine LStep_quo rfl rfl rfl hnn hbq rfl | refine LStep_rem rfl rfl rfl hnn hbr rfl)) | (((with_reducible refine gS ?_); apply Es_q); rfl; rfl; (refine LStep_sub rfl rfl rfl rfl ?_; (refine IntWalk.i64_in _ ?_; first | omega | (simp only [cmps] at *; omega)))) | (with_reducible refine Es_nil ?_) | (with_reducible refine then_n ?_) | (with_reducible refine block_n ?_))
          all_goals first
            | (refine ⟨k, by omega, by omega, ?_, by (repeat' (first | exact trivial | exact rfl | (refine ⟨Or.inl rfl, ?_⟩) | (refine ⟨Or.inr rfl, ?_⟩) | (refine ⟨Or.inr trivial, ?_⟩) | (refine ⟨rfl, ?_⟩) | (refine ⟨?_, ?_⟩))), by (repeat' (first | exact trivial | exact rfl | (refine ⟨Or.inl rfl, ?_⟩) | (refine ⟨Or.inr rfl, ?_⟩) | (refine ⟨Or.inr trivial, ?_⟩) | (refine ⟨rfl, ?_⟩) | (refine ⟨?_, ?_⟩))), by (repeat' (first | exact trivial | exact rfl | (refine ⟨Or.inl rfl, ?_⟩) | (refine ⟨Or.inr rfl, ?_⟩) | (refine ⟨Or.inr trivial, ?_⟩) | (refine ⟨rfl, ?_⟩) | (refine ⟨?_, ?_⟩)))⟩
               rw [hx, ex, d3, d4]; (repeat' (first | exact trivial | exact rfl | (refine ⟨Or.inl rfl, ?_⟩) | (refine ⟨Or.inr rfl, ?_⟩) | (refine ⟨Or.inr trivial, ?_⟩) | (refine ⟨rfl, ?_⟩) | (refine ⟨?_, ?_⟩))))
            | trace_state
    · rw [if_neg h1] at d1 d2
      generalize hq2 : 2 * q = q2 at *
      generalize hr2 : 2 * r = r2 at *
      rw [Nat.add_zero] at d1
      rw [Nat.sub_zero] at d2
      have g1 : leb ((c : Nat) : Int) ((r2 : Nat) : Int) = false := by rw [leb_f]; omega
      rcases hm2 with hb0 | hb0
      · have g2 : eqb ((0 : Nat) : Int) 1 = false := by rw [eqb_f]; omega
        rw [hb0] at hbt
        repeat' (first | ((with_reducible refine gA ?_); (first | refine AW_seq ?_ | refine AW_region ?_ | (refine AW_condY rfl ?_ ?_; assumption) | (refine AW_condN rfl ?_ ?_; assumption) | refine AW_block ?_ | refine AW_skip ?_)) | (((with_reducible refine gS ?_); apply Es_q); rfl; rfl; (first | refine LStep_fitQ (T := Try.tab) rfl rfl s1 | refine LStep_fitQ (T := Try.tab) rfl rfl s2)) | ((with_reducible refine gS ?_); refine Es_s (T := Try.tab) rfl rfl rfl rfl ?_) | (((with_reducible refine gS ?_); apply Es_q); rfl; rfl; (first | (refine LStep_shr rfl rfl rfl ?_ hs rfl; omega) | refine LStep_and rfl rfl rfl hbt rfl)) | (((with_reducible refine gS ?_); apply Es_q); rfl; rfl; (refine LStep_sub rfl rfl rfl rfl ?_; (refine IntWalk.i64_in _ ?_; first | omega | (simp only [cmps] at *; omega)))) | (with_reducible refine Es_nil ?_) | (with_reducible refine then_n ?_) | (with_reducible refine block_n ?_))
        all_goals first
          | (refine ⟨k, by omega, by omega, ?_, by (repeat' (first | exact trivial | exact rfl | (refine ⟨Or.inl rfl, ?_⟩) | (refine ⟨Or.inr rfl, ?_⟩) | (refine ⟨Or.inr trivial, ?_⟩) | (refine ⟨rfl, ?_⟩) | (refine ⟨?_, ?_⟩))), by (repeat' (first | exact trivial | exact rfl | (refine ⟨Or.inl rfl, ?_⟩) | (refine ⟨Or.inr rfl, ?_⟩) | (refine ⟨Or.inr trivial, ?_⟩) | (refine ⟨rfl, ?_⟩) | (refine ⟨?_, ?_⟩))), by (repeat' (first | exact trivial | exact rfl | (refine ⟨Or.inl rfl, ?_⟩) | (refine ⟨Or.inr rfl, ?_⟩) | (refine ⟨Or.inr trivial, ?_⟩) | (refine ⟨rfl, ?_⟩) | (refine ⟨?_, ?_⟩)))⟩
             rw [hx, show x = 2 * p by omega, d1, d2]; (repeat' (first | exact trivial | exact rfl | (refine ⟨Or.inl rfl, ?_⟩) | (refine ⟨Or.inr rfl, ?_⟩) | (refine ⟨Or.inr trivial, ?_⟩) | (refine ⟨rfl, ?_⟩) | (refine ⟨?_, ?_⟩))))
          | trace_state
      · have g2 : eqb ((1 : Nat) : Int) 1 = true := by rw [eqb_t]; omega
        rw [hb0] at hbt
        have ex : x = 2 * p + 1 := by omega
        rw [d1, d2] at d3
        rw [d2] at d4
        have s5 : AV.d (.sc (.int .i64 (wrp .i64 (((q2 : Nat) : Int) + ((u : Nat) : Int))))) = AV.d (.sc (.int .i64 ((q2 + u : Nat) : Int))) := by rw [wrp_fit (by omega)]; congr 3
        have s6 : AV.d (.sc (.int .i64 (wrp .i64 (((r2 : Nat) : Int) + ((v : Nat) : Int))))) = AV.d (.sc (.int .i64 ((r2 + v : Nat) : Int))) := by rw [wrp_fit (by omega)]; congr 3
        by_cases h3 : c ≤ r2 + v
        · rw [if_pos h3] at d3 d4
          have g3 : leb ((c : Nat) : Int) ((r2 + v : Nat) : Int) = true := by rw [leb_t]; omega
          have s7 : AV.d (.sc (.int .i64 (wrp .i64 (((q2 + u : Nat) : Int) + 1)))) = AV.d (.sc (.int .i64 ((q2 + u + 1 : Nat) : Int))) := by rw [wrp_fit (by omega)]; congr 3
          have s8 : AV.d (.sc (.int .i64 (wrp .i64 (((r2 + v : Nat) : Int) - ((c : Nat) : Int))))) = AV.d (.sc (.int .i64 ((r2 + v - c : Nat) : Int))) := by rw [wrp_fit (by omega)]; congr 3; omega
          repeat' (first | ((with_reducible refine gA ?_); (first | refine AW_seq ?_ | refine AW_region ?_ | (refine AW_condY rfl ?_ ?_; assumption) | (refine AW_condN rfl ?_ ?_; assumption) | refine AW_block ?_ | refine AW_skip ?_)) | (((with_reducible refine gS ?_); apply Es_q); rfl; rfl; (first | refine LStep_fitQ (T := Try.tab) rfl rfl s1 | refine LStep_fitQ (T := Try.tab) rfl rfl s2 | refine LStep_fitQ (T := Try.tab) rfl rfl s5 | refine LStep_fitQ (T := Try.tab) rfl rfl s6 | refine LStep_fitQ (T := Try.tab) rfl rfl s7 | refine LStep_fitQ (T := Try.tab) rfl rfl s8)) | ((with_reducible refine gS ?_); refine Es_s (T := Try.tab) rfl rfl rfl rfl ?_) | (((with_reducible refine gS ?_); apply Es_q); rfl; rfl; (first | (refine LStep_shr rfl rfl rfl ?_ hs rfl; omega) | refine LStep_and rfl rfl rfl hbt rfl | refine LStep_quo rfl rfl rfl hnn hbq rfl | refine LStep_rem rfl rfl rfl hnn hbr rfl)) | (((with_reducible refine gS ?_); apply Es_q); rfl; rfl; (refine LStep_sub rfl rfl rfl rfl ?_; (refine IntWalk.i64_in _ ?_; first | omega | (simp only [cmps] at *; omega)))) | (with_reducible refine Es_nil ?_) | (with_reducible refine then_n ?_) | (with_reducible refine block_n ?_))
          all_goals first
            | (refine ⟨k, by omega, by omega, ?_, by (repeat' (first | exact trivial | exact rfl | (refine ⟨Or.inl rfl, ?_⟩) | (refine ⟨Or.inr rfl, ?_⟩) | (refine ⟨Or.inr trivial, ?_⟩) | (refine ⟨rfl, ?_⟩) | (refine ⟨?_, ?_⟩))), by (repeat' (first | exact trivial | exact rfl | (refine ⟨Or.inl rfl, ?_⟩) | (refine ⟨Or.inr rfl, ?_⟩) | (refine ⟨Or.inr trivial, ?_⟩) | (refine ⟨rfl, ?_⟩) | (refine ⟨?_, ?_⟩))), by (repeat' (first | exact trivial | exact rfl | (refine ⟨Or.inl rfl, ?_⟩) | (refine ⟨Or.inr rfl, ?_⟩) | (refine ⟨Or.inr trivial, ?_⟩) | (refine ⟨rfl, ?_⟩) | (refine ⟨?_, ?_⟩)))⟩
               rw [hx, ex, d3, d4]; (repeat' (first | exact trivial | exact rfl | (refine ⟨Or.inl rfl, ?_⟩) | (refine ⟨Or.inr rfl, ?_⟩) | (refine ⟨Or.inr trivial, ?_⟩) | (refine ⟨rfl, ?_⟩) | (refine ⟨?_, ?_⟩))))
            | trace_state
        · rw [if_neg h3] at d3 d4
          have g3 : leb ((c : Nat) : Int) ((r2 + v : Nat) : Int) = false := by rw [leb_f]; omega
          repeat' (first | ((with_reducible refine gA ?_); (first | refine AW_seq ?_ | refine AW_region ?_ | (refine AW_condY rfl ?_ ?_; assumption) | (refine AW_condN rfl ?_ ?_; assumption) | refine AW_block ?_ | refine AW_skip ?_)) | (((with_reducible refine gS ?_); apply Es_q); rfl; rfl; (first | refine LStep_fitQ (T := Try.tab) rfl rfl s1 | refine LStep_fitQ (T := Try.tab) rfl rfl s2 | refine LStep_fitQ (T := Try.tab) rfl rfl s5 | refine LStep_fitQ (T := Try.tab) rfl rfl s6)) | ((with_reducible refine gS ?_); refine Es_s (T := Try.tab) rfl rfl rfl rfl ?_) | (((with_reducible refine gS ?_); apply Es_q); rfl; rfl; (first | (refine LStep_shr rfl rfl rfl ?_ hs rfl; omega) | refine LStep_and rfl rfl rfl hbt rfl | refine LStep_quo rfl rfl rfl hnn hbq rfl | refine LStep_rem rfl rfl rfl hnn hbr rfl)) | (((with_reducible refine gS ?_); apply Es_q); rfl; rfl; (refine LStep_sub rfl rfl rfl rfl ?_; (refine IntWalk.i64_in _ ?_; first | omega | (simp only [cmps] at *; omega)))) | (with_reducible refine Es_nil ?_) | (with_reducible refine then_n ?_) | (with_reducible refine block_n ?_))
          all_goals first
            | (refine ⟨k, by omega, by omega, ?_, by (repeat' (first | exact trivial | exact rfl | (refine ⟨Or.inl rfl, ?_⟩) | (refine ⟨Or.inr rfl, ?_⟩) | (refine ⟨Or.inr trivial, ?_⟩) | (refine ⟨rfl, ?_⟩) | (refine ⟨?_, ?_⟩))), by (repeat' (first | exact trivial | exact rfl | (refine ⟨Or.inl rfl, ?_⟩) | (refine ⟨Or.inr rfl, ?_⟩) | (refine ⟨Or.inr trivial, ?_⟩) | (refine ⟨rfl, ?_⟩) | (refine ⟨?_, ?_⟩))), by (repeat' (first | exact trivial | exact rfl | (refine ⟨Or.inl rfl, ?_⟩) | (refine ⟨Or.inr rfl, ?_⟩) | (refine ⟨Or.inr trivial, ?_⟩) | (refine ⟨rfl, ?_⟩) | (refine ⟨?_, ?_⟩)))⟩
               rw [hx, ex, d3, d4]; (repeat' (first | exact trivial | exact rfl | (refine ⟨Or.inl rfl, ?_⟩) | (refine ⟨Or.inr rfl, ?_⟩) | (refine ⟨Or.inr trivial, ?_⟩) | (refine ⟨rfl, ?_⟩) | (refine ⟨?_, ?_⟩))))
            | trace_state
  · have : i = 0 := by omega
    subst this
    have g0 : leb 0 (((0 : Nat) : Int) - 1) = false := by rw [leb_f]; omega
    have e1 : a / 2 ^ 0 = a := by rw [Nat.pow_zero, Nat.div_one]
    rw [e1]
    generalize a * b / c = qq at *
    generalize a * b % c = rr at *
    repeat' (first | ((with_reducible refine gA ?_); (first | refine AW_seq ?_ | refine AW_region ?_ | (refine AW_condN rfl ?_ ?_; assumption) | refine AW_ret ?_ | refine AW_exit ?_)) | ((with_reducible refine gS ?_); refine Es_s (T := Try.tab) rfl rfl rfl rfl ?_) | (with_reducible refine Es_nil ?_) | (with_reducible refine then_n ?_) | (with_reducible refine then_e ?_) | ((with_reducible refine block_e ?_ ?_); rfl) | ((with_reducible refine gR ?_); first | refine ret1 rfl ?_ | refine ret2 rfl rfl ?_ | refine ret0 ?_ | refine end1 rfl ?_ | refine end0 ?_))
    all_goals first
      | rfl
      | trace_state
/-- parts and rests, as far as they are made -/
def Q2 (t s : Nat) (ws : List Nat) (i : Nat) : Hp := [(15, some (.arr 2 1 ((fillV (shQ t s ws) i).map nN))), (18, some (.arr 2 1 ((fillV (shR t s ws) i).map nN)))]
set_option maxRecDepth 10000 in
set_option maxHeartbeats 16000000 in
theorem rsplit_ac (t : Nat) (W : List Nat) (ht : t ≤ 1099511627776) (hl : W.length ≤ 41) (hw : ∀ x ∈ W, x ≤ 1099511627776) (hs0 : 0 < W.sum) :
    AC Try.prog 32 [.d (.sc (.int .i64 ((t : Nat) : Int))), .d (.sl 1 (W.map nN))] [] [] (fun r _ => r = .d (.sl 1 ((docP t W).map nN))) := by
  have hs1 : W.sum ≤ 45079976738816 := by
    have := sum_le W _ hw
    have : W.length * 1099511627776 ≤ 41 * 1099511627776 := Nat.mul_le_mul_right _ hl
    omega
  have eS : docP t W = bump (shQ t W.sum W) ((ordR (shR t W.sum W)).take (t - (shQ t W.sum W).sum)) := rfl
  have hq0 := shQ_le (t := t) hs0 rfl
  have hlf := left_le (t := t) hs0 rfl
  have lq : (shQ t W.sum W).length = W.length := by unfold shQ; rw [List.length_map]
  have lr : (shR t W.sum W).length = W.length := by unfold shR; rw [List.length_map]
  have lo := ordR_len (shR t W.sum W)
  have hbest := fun k b h => ord_best (shR t W.sum W) (k := k) (b := b) h
  have hrb := fun l => rstL_range (shR t W.sum W) l W.sum (fun x hx => by
    unfold shR at hx
    obtain ⟨w, _, rfl⟩ := List.mem_map.1 hx
    exact Nat.le_of_lt (Nat.mod_lt _ hs0))
  have g0 : eqb ((W.sum : Nat) : Int) 0 = false := by rw [eqb_f]; omega
  refine AC_enter Try.func32 rfl Try.ntmps32 (rv := [.tmp 4]) rfl rfl (by simp) (fun w X G => ?_)
  repeat' (first | ((with_reducible refine gA ?_); (first | refine AW_seq ?_ | refine AW_region ?_ | refine AW_block ?_)) | ((with_reducible refine gS ?_); refine Es_s (T := Try.tab) rfl rfl rfl rfl ?_) | (((with_reducible refine gS ?_); apply Es_xs); rfl; rfl; (refine LStep_makeOwn (T := Try.tab) rfl rfl rfl rfl rfl rfl rfl rfl rfl rfl ?_ ?_ ?_ ?_; omega; omega; omega; omega); rfl) | (((with_reducible refine gS ?_); apply Es_q); rfl; rfl; refine LStep_lenM (T := Try.tab) rfl rfl rfl rfl) | (with_reducible refine Es_nil ?_) | (with_reducible refine then_n ?_))
  simp only [Int.toNat_natCast]
  refine AW_forE (S := Nat) (fun k => k ≤ W.length) (fun k => [(8, .d (.sc (.int .i64 (k : Nat)))), (7, .d (.sc (.int .i64 (((W.take k).sum : Nat) : Int))))]) (fun _ => []) (fun k => W.length - k) 0 (by omega) (by (repeat' (first | exact trivial | exact rfl | (refine ⟨Or.inl rfl, ?_⟩) | (refine ⟨Or.inr rfl, ?_⟩) | (refine ⟨Or.inr trivial, ?_⟩) | (refine ⟨rfl, ?_⟩) | (refine ⟨?_, ?_⟩)))) (by (repeat' (first | exact trivial | exact rfl | (refine ⟨Or.inl rfl, ?_⟩) | (refine ⟨Or.inr rfl, ?_⟩) | (refine ⟨Or.inr trivial, ?_⟩) | (refine ⟨rfl, ?_⟩) | (refine ⟨?_, ?_⟩)))) ?_
  intro k hk
  by_cases hlt : k < W.length
  · obtain ⟨x, hx, _⟩ := drop_at hlt
    have g2 : ltb (k : Nat) (W.length : Nat) = true := by rw [ltb_t]; omega
    have hst := sum_take_at hx
    have hle := sum_take_le W (k + 1)
    generalize hu' : (W.take (k + 1)).sum = u' at *
    generalize (W.take k).sum = u at *
    have s1 : AV.d (.sc (.int .i64 (wrp .i64 (((u : Nat) : Int) + ((x : Nat) : Int))))) = AV.d (.sc (.int .i64 ((u' : Nat) : Int))) := by rw [wrp_fit (by omega)]; congr 3; omega
    repeat' (first | ((with_reducible refine gA ?_); (first | refine AW_seq ?_ | refine AW_region ?_ | (refine AW_condY rfl ?_ ?_; assumption) | refine AW_block ?_ | refine AW_skip ?_)) | (((with_reducible refine gS ?_); apply Es_q); rfl; rfl; refine LStep_fitQ (T := Try.tab) rfl rfl s1) | ((with_reducible refine gS ?_); refine Es_s (T := Try.tab) rfl rfl rfl rfl ?_) | (((with_reducible refine gS ?_); apply Es_q); rfl; rfl; (first | refine LStep_lenM (T := Try.tab) rfl rfl rfl rfl | (refine LStep_add rfl rfl rfl rfl ?_; (refine IntWalk.i64_in _ ?_; first | omega | (simp only [cmps] at *; omega))) | (refine LStep_indexM (T := Try.tab) (c := ?_) rfl rfl rfl rfl rfl rfl ?_; rotate_left; assumption))) | (with_reducible refine Es_nil ?_) | (with_reducible refine then_n ?_) | (with_reducible refine block_n ?_))
    all_goals first
      | (refine ⟨k + 1, by omega, by omega, ?_, by (repeat' (first | exact trivial | exact rfl | (refine ⟨Or.inl rfl, ?_⟩) | (refine ⟨Or.inr rfl, ?_⟩) | (refine ⟨Or.inr trivial, ?_⟩) | (refine ⟨rfl, ?_⟩) | (refine ⟨?_, ?_⟩))), by (repeat' (first | exact trivial | exact rfl | (refine ⟨Or.inl rfl, ?_⟩) | (refine ⟨Or.inr rfl, ?_⟩) | (refine ⟨Or.inr trivial, ?_⟩) | (refine ⟨rfl, ?_⟩) | (refine ⟨?_, ?_⟩))), by (repeat' (first | exact trivial | exact rfl | (refine ⟨Or.inl rfl, ?_⟩) | (refine ⟨Or.inr rfl, ?_⟩) | (refine ⟨Or.inr trivial, ?_⟩) | (refine ⟨rfl, ?_⟩) | (refine ⟨?_, ?_⟩)))⟩
         rw [hu']; (repeat' (first | exact trivial | exact rfl | (refine ⟨Or.inl rfl, ?_⟩) | (refine ⟨Or.inr rfl, ?_⟩) | (refine ⟨Or.inr trivial, ?_⟩) | (refine ⟨rfl, ?_⟩) | (refine ⟨?_, ?_⟩))))
      | trace_state
  have : k = W.length := by omega
  subst this
  have g2 : ltb (W.length : Nat) (W.length : Nat) = false := by rw [ltb_f]; omega
  rw [List.take_length]
  repeat' (first | ((with_reducible refine gA ?_); (first | refine AW_seq ?_ | refine AW_region ?_ | (refine AW_condN rfl ?_ ?_; assumption) | refine AW_block ?_ | refine AW_skip ?_ | refine AW_exit ?_)) | ((with_reducible refine gS ?_); refine Es_s (T := Try.tab) rfl rfl rfl rfl ?_) | (((with_reducible refine gS ?_); apply Es_q); rfl; rfl; refine LStep_lenM (T := Try.tab) rfl rfl rfl rfl) | (with_reducible refine Es_nil ?_) | (with_reducible refine then_n ?_) | (with_reducible refine then_e ?_) | ((with_reducible refine block_e ?_ ?_); rfl))
  have z1 : (fillV (shQ t W.sum W) 0).map nN = List.replicate W.length [D.sc (.int .i64 0)] := by rw [fillV_zero, List.map_replicate, lq]; rfl
  have z2 : (fillV (shR t W.sum W) 0).map nN = List.replicate W.length [D.sc (.int .i64 0)] := by rw [fillV_zero, List.map_replicate, lr]; rfl
  refine AW_forE (S := Nat) (fun i => i ≤ W.length) (fun i => [(10, .d (.sc (.int .i64 (i : Nat)))), (9, .d (.sc (.int .i64 ((t - ((shQ t W.sum W).take i).sum : Nat) : Int))))]) (fun i => Q2 t W.sum W i) (fun i => W.length - i) 0 (by omega) (by (repeat' (first | exact trivial | exact rfl | (refine ⟨Or.inl rfl, ?_⟩) | (refine ⟨Or.inr rfl, ?_⟩) | (refine ⟨Or.inr trivial, ?_⟩) | (refine ⟨rfl, ?_⟩) | (refine ⟨?_, ?_⟩)))) (by unfold Q2; rw [z1, z2]; (repeat' (first | exact trivial | exact rfl | (refine ⟨Or.inl rfl, ?_⟩) | (refine ⟨Or.inr rfl, ?_⟩) | (refine ⟨Or.inr trivial, ?_⟩) | (refine ⟨rfl, ?_⟩) | (refine ⟨?_, ?_⟩)))) ?_
  clear z1 z2
  intro i hi
  by_cases hlt : i < W.length
  · obtain ⟨x, hx, _⟩ := drop_at hlt
    have hxs := mem_le_sum (List.mem_of_getElem? hx)
    have hdx := times_ac t x W.sum hs0 hxs ht hs1
    have g3 : ltb (i : Nat) (W.length : Nat) = true := by rw [ltb_t]; omega
    have hx1 : (shQ t W.sum W)[i]? = some (t * x / W.sum) := by unfold shQ; rw [List.getElem?_map, hx]; rfl
    have hx2 : (shR t W.sum W)[i]? = some (t * x % W.sum) := by unfold shR; rw [List.getElem?_map, hx]; rfl
    have hst := sum_take_at hx1
    have hle := sum_take_le (shQ t W.sum W) (i + 1)
    have e1 := map_fill (e := nN) hx1
    have e2 := map_fill (e := nN) hx2
    have k1 := fillV_at (l := shQ t W.sum W) (i := i) (by omega)
    have k2 := fillV_at (l := shR t W.sum W) (i := i) (by omega)
    have n1 := fillV_len (l := shQ t W.sum W) (i := i) (by omega)
    have n2 := fillV_len (l := shR t W.sum W) (i := i) (by omega)
    unfold Q2
    clear hbest hrb eS
    generalize hE1 : (fillV (shQ t W.sum W) (i + 1)).map nN = E1 at *
    generalize hE2 : (fillV (shR t W.sum W) (i + 1)).map nN = E2 at *
    generalize fillV (shQ t W.sum W) i = L1 at *
    generalize fillV (shR t W.sum W) i = L2 at *
    generalize hu' : ((shQ t W.sum W).take (i + 1)).sum = u' at *
    generalize ((shQ t W.sum W).take i).sum = u at *
    generalize t * x / W.sum = q at *
    generalize t * x % W.sum = r at *
    have b5 : ((L1.map nN).set i (nN q))[i]? = some (nN q) := by rw [List.getElem?_set_self (by rw [List.length_map]; omega)]
    have hsub : AV.d (.sc (.int .i64 (wrp .i64 (((t - u : Nat) : Int) - ((q : Nat) : Int))))) = AV.d (.sc (.int .i64 ((t - u' : Nat) : Int))) := by
      rw [wrp_fit (by omega)]
      congr 3
      omega
    repeat' (first | ((with_reducible refine gA ?_); (first | refine AW_seq ?_ | refine AW_region ?_ | (refine AW_condY rfl ?_ ?_; assumption) | refine AW_block ?_ | refine AW_skip ?_)) | (((with_reducible refine gS ?_); apply Es_q); rfl; rfl; refine LStep_fitQ (T := Try.tab) rfl rfl hsub) | ((with_reducible refine gS ?_); refine Es_s (T := Try.tab) rfl rfl rfl rfl ?_) | (((with_reducible refine gS ?_); apply Es_q); rfl; rfl; (first | refine LStep_call (hdx) rfl rfl rfl rfl | (refine LStep_indexOwnM (T := Try.tab) rfl rfl rfl rfl rfl rfl rfl ?_ ?_; (simp only [List.length_set, List.length_map]; omega); (simp only [List.length_set, List.length_map]; omega)) | (refine LStep_loadE (T := Try.tab) rfl rfl rfl rfl rfl ?_ b5 rfl; (simp only [List.length_set, List.length_map]; omega)))) | (((with_reducible refine gS ?_); apply Es_xn); rfl; rfl; (first | (refine LStep_storeEM (T := Try.tab) rfl rfl rfl rfl rfl rfl rfl rfl ?_ k1 rfl; (rw [List.length_map]; omega)) | (refine LStep_storeEM (T := Try.tab) rfl rfl rfl rfl rfl rfl rfl rfl ?_ k2 rfl; (rw [List.length_map]; omega))); rfl) | (((with_reducible refine gS ?_); apply Es_q); rfl; rfl; (first | refine LStep_lenM (T := Try.tab) rfl rfl rfl rfl | (refine LStep_add rfl rfl rfl rfl ?_; (refine IntWalk.i64_in _ ?_; first | omega | (simp only [cmps] at *; omega))) | (refine LStep_indexM (T := Try.tab) (c := ?_) rfl rfl rfl rfl rfl rfl ?_; rotate_left; assumption))) | (with_reducible refine Es_nil ?_) | (with_reducible refine then_n ?_) | (with_reducible refine block_n ?_))
    all_goals first
      | (refine ⟨i + 1, by omega, by omega, ?_, by (repeat' (first | exact trivial | exact rfl | (refine ⟨Or.inl rfl, ?_⟩) | (refine ⟨Or.inr rfl, ?_⟩) | (refine ⟨Or.inr trivial, ?_⟩) | (refine ⟨rfl, ?_⟩) | (refine ⟨?_, ?_⟩))), ?_, by (repeat' (first | exact trivial | exact rfl | (refine ⟨Or.inl rfl, ?_⟩) | (refine ⟨Or.inr rfl, ?_⟩) | (refine ⟨Or.inr trivial, ?_⟩) | (refine ⟨rfl, ?_⟩) | (refine ⟨?_, ?_⟩)))⟩
         · rw [hu']; (repeat' (first | exact trivial | exact rfl | (refine ⟨Or.inl rfl, ?_⟩) | (refine ⟨Or.inr rfl, ?_⟩) | (refine ⟨Or.inr trivial, ?_⟩) | (refine ⟨rfl, ?_⟩) | (refine ⟨?_, ?_⟩)))
         · rw [hE1, hE2, ← e1, ← e2]; (repeat' (first | exact trivial | exact rfl | (refine ⟨Or.inl rfl, ?_⟩) | (refine ⟨Or.inr rfl, ?_⟩) | (refine ⟨Or.inr trivial, ?_⟩) | (refine ⟨rfl, ?_⟩) | (refine ⟨?_, ?_⟩))))
      | trace_state
  have : i = W.length := by omega
  subst this
  unfold Q2
  have o1 : fillV (shQ t W.sum W) W.length = shQ t W.sum W := by rw [← lq, fillV_all]
  have o2 : fillV (shR t W.sum W) W.length = shR t W.sum W := by rw [← lr, fillV_all]
  have o4 : (shQ t W.sum W).take W.length = shQ t W.sum W := by rw [← lq, List.take_length]
  have o5 : (shR t W.sum W).map nN = (rstL (shR t W.sum W) []).map nI := by
    unfold rstL
    rw [List.foldl_nil, List.map_map]
    rfl
  rw [o1, o2, o4, o5, eS]
  have hqb : ∀ v ∈ shQ t W.sum W, v ≤ t := fun v hv => Nat.le_trans (mem_le_sum hv) hq0
  have hom : ∀ j ∈ ordR (shR t W.sum W), j < W.length := fun j hj => by
    unfold ordR at hj
    have := List.mem_range.1 ((isL_perm _).mem_iff.1 hj)
    omega
  have hrl := fun l => rstL_len (shR t W.sum W) l
  have hsn := fun l j => rstL_snoc (shR t W.sum W) l j
  rw [lr] at lo hbest
  simp only [lr] at hrl
  clear o1 o2 o4 o5 eS
  generalize hn : W.length = n at *
  generalize ordR (shR t W.sum W) = ord at *
  generalize shQ t W.sum W = qs at *
  generalize hrf : rstL (shR t W.sum W) = rf at *
  generalize shR t W.sum W = rs at *
  repeat' (first | ((with_reducible refine gA ?_); (first | refine AW_seq ?_ | refine AW_region ?_ | (refine AW_cond rfl (fun hc => ?_) (fun hc => ?_) <;> try (exfalso; simp only [cmpL] at hc; omega)) | refine AW_block ?_ | refine AW_exit ?_)) | ((with_reducible refine gS ?_); refine Es_s (T := Try.tab) rfl rfl rfl rfl ?_) | (((with_reducible refine gS ?_); apply Es_q); rfl; rfl; refine LStep_lenM (T := Try.tab) rfl rfl rfl rfl) | (with_reducible refine Es_nil ?_) | (with_reducible refine then_n ?_) | (with_reducible refine then_e ?_) | ((with_reducible refine block_e ?_ ?_); rfl))
  generalize hlv : t - qs.sum = lv at *
  refine AW_forE (S := Nat) (fun k => k ≤ lv) (fun k => [(9, .d (.sc (.int .i64 ((lv - k : Nat) : Int))))]) (fun k => [(15, some (.arr 2 1 ((bump qs (ord.take k)).map nN))), (18, some (.arr 2 1 ((rf (ord.take k)).map nI)))]) (fun k => lv - k) 0 (by omega) (by (repeat' (first | exact trivial | exact rfl | (refine ⟨Or.inl rfl, ?_⟩) | (refine ⟨Or.inr rfl, ?_⟩) | (refine ⟨Or.inr trivial, ?_⟩) | (refine ⟨rfl, ?_⟩) | (refine ⟨?_, ?_⟩)))) (by (repeat' (first | exact trivial | exact rfl | (refine ⟨Or.inl rfl, ?_⟩) | (refine ⟨Or.inr rfl, ?_⟩) | (refine ⟨Or.inr trivial, ?_⟩) | (refine ⟨rfl, ?_⟩) | (refine ⟨?_, ?_⟩)))) ?_
  intro k hk
  have hbl := bump_len (ord.take k) qs
  by_cases hlt : k < lv
  · have hko : k < ord.length := by omega
    obtain ⟨j, hj, _⟩ := drop_at hko
    have hjn := hom j (List.mem_of_getElem? hj)
    have hbj := hbest k j hj
    have g4 : ltb 0 ((lv - k : Nat) : Int) = true := by rw [ltb_t]; omega
    have hst := bump_snoc qs (ord.take k) j
    have hsr := hsn (ord.take k) j
    rw [← take_at hj] at hst hsr
    have hbb := bump_le t (ord.take k) qs hqb
    have htl : (ord.take k).length ≤ 41 := by rw [List.length_take]; omega
    have hRl := hrl (ord.take k)
    have hRb := hrb (ord.take k)
    generalize (ord.take k).length = tl at *
    generalize hL' : bump qs (ord.take (k + 1)) = L' at *
    generalize bump qs (ord.take k) = L at *
    generalize hR' : rf (ord.take (k + 1)) = R' at *
    generalize rf (ord.take k) = R at *
    obtain ⟨v, hv⟩ : ∃ v, L[j]? = some v := ⟨_, List.getElem?_eq_getElem (by omega)⟩
    have hvb := hbb v (List.mem_of_getElem? hv)
    obtain ⟨z, hz⟩ : ∃ z, R[j]? = some z := ⟨_, List.getElem?_eq_getElem (by omega)⟩
    rw [getD_at hv] at hst
    have e1 : (L.map nN).set j (nN (v + 1)) = L'.map nN := by rw [← List.map_set, ← hst]
    have e2 : (R.map nI).set j (nI (-1)) = R'.map nI := by rw [← List.map_set, ← hsr]
    have s1 : AV.d (.sc (.int .i64 (wrp .i64 (((lv - k : Nat) : Int) - 1)))) = AV.d (.sc (.int .i64 ((lv - (k + 1) : Nat) : Int))) := by rw [wrp_fit (by omega)]; congr 3; omega
    have s2 : AV.d (.sc (.int .i64 (wrp .i64 (((v : Nat) : Int) + 1)))) = AV.d (.sc (.int .i64 ((v + 1 : Nat) : Int))) := by rw [wrp_fit (by omega)]; congr 3
    clear hbest hrb hqb hbb hsn hrl hst hsr hrf
    repeat' (first | ((with_reducible refine gA ?_); (first | refine AW_seq ?_ | refine AW_region ?_ | (refine AW_condY rfl ?_ ?_; assumption) | refine AW_block ?_ | refine AW_skip ?_)) | ((with_reducible refine gS ?_); refine Es_s (T := Try.tab) rfl rfl rfl rfl ?_) | (with_reducible refine Es_nil ?_) | (with_reducible refine then_n ?_))
    refine AW_forE (S := Nat × Nat) (fun z => z.1 ≤ n ∧ isBest R z.1 z.2) (fun z => [(12, .d (.sc (.int .i64 ((z.1 : Nat) : Int)))), (11, .d (.sc (.int .i64 ((z.2 : Nat) : Int))))]) (fun _ => []) (fun z => n - z.1) (1, 0) ⟨by dsimp only; omega, isBest_one R⟩ (by (repeat' (first | exact trivial | exact rfl | (refine ⟨Or.inl rfl, ?_⟩) | (refine ⟨Or.inr rfl, ?_⟩) | (refine ⟨Or.inr trivial, ?_⟩) | (refine ⟨rfl, ?_⟩) | (refine ⟨?_, ?_⟩)))) (by (repeat' (first | exact trivial | exact rfl | (refine ⟨Or.inl rfl, ?_⟩) | (refine ⟨Or.inr rfl, ?_⟩) | (refine ⟨Or.inr trivial, ?_⟩) | (refine ⟨rfl, ?_⟩) | (refine ⟨?_, ?_⟩)))) ?_
    rintro ⟨i, b⟩ ⟨hi1, hib⟩
    dsimp only at hi1 hib
    have hbi := hib.1
    by_cases hin : i < n
    · have g5 : ltb ((i : Nat) : Int) ((n : Nat) : Int) = true := by rw [ltb_t]; omega
      obtain ⟨x, hx⟩ : ∃ x, R[i]? = some x := ⟨_, List.getElem?_eq_getElem (by omega)⟩
      obtain ⟨y, hy⟩ : ∃ y, R[b]? = some y := ⟨_, List.getElem?_eq_getElem (by omega)⟩
      have hup := isBest_up hib
      have hst := isBest_st hib
      rw [List.getD_eq_getElem?_getD, List.getD_eq_getElem?_getD, hx, hy, Option.getD_some, Option.getD_some] at hup hst
      by_cases hc : y < x
      · have g6 : ltb y x = true := ltb_t.2 hc
        repeat' (first | ((with_reducible refine gA ?_); (first | refine AW_seq ?_ | refine AW_region ?_ | refine AW_regionD Try.mixed ?_ | (refine AW_condY rfl ?_ ?_; assumption) | refine AW_block ?_ | refine AW_skip ?_)) | (first | ((with_reducible refine gS ?_); refine Es_s (T := Try.tab) rfl rfl rfl rfl ?_) | ((with_reducible refine gD ?_); refine Ed_s (T := Try.tab) rfl rfl rfl rfl ?_)) | ((first | ((with_reducible refine gS ?_); apply Es_q) | ((with_reducible refine gD ?_); apply Ed_q)); rfl; rfl; (first | (refine LStep_lenOwn (T := Try.tab) rfl rfl rfl rfl rfl ?_; (rw [List.length_map]; omega)) | (refine LStep_indexOwnM (T := Try.tab) rfl rfl rfl rfl rfl rfl rfl ?_ ?_; (simp only [List.length_map]; omega); (simp only [List.length_map]; omega)) | (refine LStep_loadEM (T := Try.tab) rfl rfl rfl rfl rfl ?_ hx rfl; (rw [List.length_map]; omega)) | (refine LStep_loadEM (T := Try.tab) rfl rfl rfl rfl rfl ?_ hy rfl; (rw [List.length_map]; omega)))) | (((with_reducible refine gS ?_); apply Es_q); rfl; rfl; (refine LStep_add rfl rfl rfl rfl ?_; (refine IntWalk.i64_in _ ?_; first | omega | (simp only [cmps] at *; omega)))) | (with_reducible refine Es_nil ?_) | ((with_reducible refine Ed_nil ?_ ?_); kernel_rfl) | (with_reducible refine then_n ?_) | (with_reducible refine block_n ?_))
        all_goals first
          | (refine ⟨(i + 1, i), ⟨by dsimp only; omega, hup hc⟩, by dsimp only; omega, by (repeat' (first | exact trivial | exact rfl | (refine ⟨Or.inl rfl, ?_⟩) | (refine ⟨Or.inr rfl, ?_⟩) | (refine ⟨Or.inr trivial, ?_⟩) | (refine ⟨rfl, ?_⟩) | (refine ⟨?_, ?_⟩))), by (repeat' (first | exact trivial | exact rfl | (refine ⟨Or.inl rfl, ?_⟩) | (refine ⟨Or.inr rfl, ?_⟩) | (refine ⟨Or.inr trivial, ?_⟩) | (refine ⟨rfl, ?_⟩) | (refine ⟨?_, ?_⟩))), by (repeat' (first | exact trivial | exact rfl | (refine ⟨Or.inl rfl, ?_⟩) | (refine ⟨Or.inr rfl, ?_⟩) | (refine ⟨Or.inr trivial, ?_⟩) | (refine ⟨rfl, ?_⟩) | (refine ⟨?_, ?_⟩))), by (repeat' (first | exact trivial | exact rfl | (refine ⟨Or.inl rfl, ?_⟩) | (refine ⟨Or.inr rfl, ?_⟩) | (refine ⟨Or.inr trivial, ?_⟩) | (refine ⟨rfl, ?_⟩) | (refine ⟨?_, ?_⟩)))⟩; done)
          | trace_state
      · have g6 : ltb y x = false := ltb_f.2 (by omega)
        repeat' (first | ((with_reducible refine gA ?_); (first | refine AW_seq ?_ | refine AW_region ?_ | refine AW_regionD Try.mixed ?_ | (refine AW_condY rfl ?_ ?_; assumption) | (refine AW_condN rfl ?_ ?_; assumption) | refine AW_block ?_ | refine AW_skip ?_)) | (first | ((with_reducible refine gS ?_); refine Es_s (T := Try.tab) rfl rfl rfl rfl ?_) | ((with_reducible refine gD ?_); refine Ed_s (T := Try.tab) rfl rfl rfl rfl ?_)) | ((first | ((with_reducible refine gS ?_); apply Es_q) | ((with_reducible refine gD ?_); apply Ed_q)); rfl; rfl; (first | (refine LStep_lenOwn (T := Try.tab) rfl rfl rfl rfl rfl ?_; (rw [List.length_map]; omega)) | (refine LStep_indexOwnM (T := Try.tab) rfl rfl rfl rfl rfl rfl rfl ?_ ?_; (simp only [List.length_map]; omega); (simp only [List.length_map]; omega)) | (refine LStep_loadEM (T := Try.tab) rfl rfl rfl rfl rfl ?_ hx rfl; (rw [List.length_map]; omega)) | (refine LStep_loadEM (T := Try.tab) rfl rfl rfl rfl rfl ?_ hy rfl; (rw [List.length_map]; omega)))) | (((with_reducible refine gS ?_); apply Es_q); rfl; rfl; (refine LStep_add rfl rfl rfl rfl ?_; (refine IntWalk.i64_in _ ?_; first | omega | (simp only [cmps] at *; omega)))) | (with_reducible refine Es_nil ?_) | ((with_reducible refine Ed_nil ?_ ?_); kernel_rfl) | (with_reducible refine then_n ?_) | (with_reducible refine block_n ?_))
        all_goals first
          | (refine ⟨(i + 1, b), ⟨by dsimp only; omega, hst hc⟩, by dsimp only; omega, by (repeat' (first | exact trivial | exact rfl | (refine ⟨Or.inl rfl, ?_⟩) | (refine ⟨Or.inr rfl, ?_⟩) | (refine ⟨Or.inr trivial, ?_⟩) | (refine ⟨rfl, ?_⟩) | (refine ⟨?_, ?_⟩))), by (repeat' (first | exact trivial | exact rfl | (refine ⟨Or.inl rfl, ?_⟩) | (refine ⟨Or.inr rfl, ?_⟩) | (refine ⟨Or.inr trivial, ?_⟩) | (refine ⟨rfl, ?_⟩) | (refine ⟨?_, ?_⟩))), by (repeat' (first | exact trivial | exact rfl | (refine ⟨Or.inl rfl, ?_⟩) | (refine ⟨Or.inr rfl, ?_⟩) | (refine ⟨Or.inr trivial, ?_⟩) | (refine ⟨rfl, ?_⟩) | (refine ⟨?_, ?_⟩))), by (repeat' (first | exact trivial | exact rfl | (refine ⟨Or.inl rfl, ?_⟩) | (refine ⟨Or.inr rfl, ?_⟩) | (refine ⟨Or.inr trivial, ?_⟩) | (refine ⟨rfl, ?_⟩) | (refine ⟨?_, ?_⟩)))⟩; done)
          | trace_state
    · have : i = n := by omega
      subst this
      have hbe := isBest_uni hib hbj
      subst hbe
      have g5 : ltb ((i : Nat) : Int) ((i : Nat) : Int) = false := by rw [ltb_f]; omega
      repeat' (first | ((with_reducible refine gA ?_); (first | refine AW_seq ?_ | refine AW_region ?_ | (refine AW_condN rfl ?_ ?_; assumption) | refine AW_exit ?_)) | (((with_reducible refine gS ?_); apply Es_q); rfl; rfl; (first | refine LStep_fitQ (T := Try.tab) rfl rfl s1 | refine LStep_fitQ (T := Try.tab) rfl rfl s2)) | ((with_reducible refine gS ?_); refine Es_s (T := Try.tab) rfl rfl rfl rfl ?_) | (((with_reducible refine gS ?_); apply Es_q); rfl; rfl; (first | (refine LStep_lenOwn (T := Try.tab) rfl rfl rfl rfl rfl ?_; (rw [List.length_map]; omega)) | (refine LStep_indexOwnM (T := Try.tab) rfl rfl rfl rfl rfl rfl rfl ?_ ?_; (simp only [List.length_map]; omega); (simp only [List.length_map]; omega)) | (refine LStep_loadEM (T := Try.tab) rfl rfl rfl rfl rfl ?_ hv rfl; (rw [List.length_map]; omega)))) | (((with_reducible refine gS ?_); apply Es_xn); rfl; rfl; (first | (refine LStep_storeEM (T := Try.tab) rfl rfl rfl rfl rfl rfl rfl rfl ?_ hv rfl; (rw [List.length_map]; omega)) | (refine LStep_storeEM (T := Try.tab) rfl rfl rfl rfl rfl rfl rfl rfl ?_ hz rfl; (rw [List.length_map]; omega))); rfl) | (with_reducible refine Es_nil ?_) | (with_reducible refine then_n ?_) | (with_reducible refine then_e ?_) | (with_reducible refine block_n ?_) | ((with_reducible refine block_e ?_ ?_); rfl))
      all_goals first
        | (refine ⟨k + 1, by omega, by omega, by (repeat' (first | exact trivial | exact rfl | (refine ⟨Or.inl rfl, ?_⟩) | (refine ⟨Or.inr rfl, ?_⟩) | (refine ⟨Or.inr trivial, ?_⟩) | (refine ⟨rfl, ?_⟩) | (refine ⟨?_, ?_⟩))), by (repeat' (first | exact trivial | exact rfl | (refine ⟨Or.inl rfl, ?_⟩) | (refine ⟨Or.inr rfl, ?_⟩) | (refine ⟨Or.inr trivial, ?_⟩) | (refine ⟨rfl, ?_⟩) | (refine ⟨?_, ?_⟩))), ?_, by (repeat' (first | exact trivial | exact rfl | (refine ⟨Or.inl rfl, ?_⟩) | (refine ⟨Or.inr rfl, ?_⟩) | (refine ⟨Or.inr trivial, ?_⟩) | (refine ⟨rfl, ?_⟩) | (refine ⟨?_, ?_⟩)))⟩
           rw [hL', hR', ← e1, ← e2]; (repeat' (first | exact trivial | exact rfl | (refine ⟨Or.inl rfl, ?_⟩) | (refine ⟨Or.inr rfl, ?_⟩) | (refine ⟨Or.inr trivial, ?_⟩) | (refine ⟨rfl, ?_⟩) | (refine ⟨?_, ?_⟩))))
        | trace_state
  have : k = lv := by omega
  subst this
  have g4 : ltb 0 ((k - k : Nat) : Int) = false := by rw [ltb_f]; omega
  repeat' (first | ((with_reducible refine gRc ?_); refine AW_freeze [4] (id := 15) ⟨rfl, trivial⟩ rfl (show (List.map nN (bump qs (ord.take k))).length = n by rw [List.length_map]; omega) ?_) | ((with_reducible refine gA ?_); (first | refine AW_seq ?_ | refine AW_region ?_ | (refine AW_condN rfl ?_ ?_; assumption) | refine AW_ret ?_ | refine AW_exit ?_)) | ((with_reducible refine gS ?_); refine Es_s (T := Try.tab) rfl rfl rfl rfl ?_) | (with_reducible refine Es_nil ?_) | (with_reducible refine then_n ?_) | (with_reducible refine then_e ?_) | ((with_reducible refine block_e ?_ ?_); rfl) | ((with_reducible refine gR ?_); first | refine ret1 rfl ?_ | refine ret2 rfl rfl ?_ | refine ret0 ?_ | refine end1 rfl ?_ | refine end0 ?_))
  all_goals first
    | rfl
    | trace_state
end Go.Proofs.Ytldfncafkdmoiaa
namespace Go.Proofs.Ytldfncafkdmoiaa
open Go.SL
/-! ### the document's Money -/
theorem fillV_skip {l : List Nat} {i : Nat} (h : l[i]? = some 0) : fillV l (i + 1) = fillV l i := by
  have hl := (List.getElem?_eq_some_iff.1 h).1
  rw [← fillV_set h]
  refine List.ext_getElem? (fun j => ?_)
  by_cases e : i = j
  · subst e
    rw [List.getElem?_set_self (by rw [fillV_len (by omega)]; exact hl), fillV_at hl]
  · rw [List.getElem?_set_ne e]
def addP (o w : List Nat) (i : Nat) : List Nat := addL (o.take i) (w.take i) ++ o.drop i
theorem addP_zero (o w : List Nat) : addP o w 0 = o := by unfold addP addL; simp
theorem addP_all {o w : List Nat} (h : o.length = w.length) : addP o w w.length = addL o w := by
  unfold addP
  rw [List.take_length, List.take_of_length_le (by omega), List.drop_eq_nil_of_le (by omega), List.append_nil]
theorem addP_len {o w : List Nat} (h : o.length = w.length) {i : Nat} (hi : i ≤ w.length) : (addP o w i).length = w.length := by
  unfold addP
  rw [List.length_append, addL_len (by rw [List.length_take, List.length_take]; omega), List.length_take, List.length_drop]
  omega
theorem addP_at {o w : List Nat} (h : o.length = w.length) {i x : Nat} (hx : o[i]? = some x) : (addP o w i)[i]? = some x := by
  have hl := (List.getElem?_eq_some_iff.1 hx).1
  have l1 : (addL (o.take i) (w.take i)).length = i := by rw [addL_len (by rw [List.length_take, List.length_take]; omega), List.length_take]; omega
  unfold addP
  rw [List.getElem?_append_right (by omega), l1, Nat.sub_self, List.getElem?_drop, Nat.add_zero]
  exact hx
theorem addP_set {o w : List Nat} (h : o.length = w.length) {i x y : Nat} (hx : o[i]? = some x) (hy : w[i]? = some y) : (addP o w i).set i (x + y) = addP o w (i + 1) := by
  have hl := (List.getElem?_eq_some_iff.1 hx).1
  have l1 : (addL (o.take i) (w.take i)).length = i := by rw [addL_len (by rw [List.length_take, List.length_take]; omega), List.length_take]; omega
  obtain ⟨x', hx', hd⟩ := drop_at hl
  rw [hx] at hx'
  obtain rfl := Option.some.inj hx'
  unfold addP
  rw [List.set_append_right _ _ (by omega), l1, Nat.sub_self, hd, List.set_cons_zero, take_at hx, take_at hy]
  unfold addL
  rw [List.zipWith_append (by rw [List.length_take, List.length_take]; omega), List.append_assoc]
  rfl
theorem docM_len (l : List Cl) (t r : Nat) : (docM l t r).1.length = l.length := by rw [(docM_eq l t r).1]; exact monN_len l t r
theorem docM_le (l : List Cl) (t r : Nat) : (docM l t r).2 ≤ t := by rw [(docM_eq l t r).1]; exact monN_le l t r
theorem mon_each (l : List Cl) (t r : Nat) : ∀ x ∈ (monN l t r).1, x ≤ t := fun x hx => by
  have h1 := mon_sum l t r
  have h2 := mem_le_sum hx
  omega
theorem docM_each (l : List Cl) (t r : Nat) : ∀ x ∈ (docM l t r).1, x ≤ t := by rw [(docM_eq l t r).1]; exact mon_each l t r
set_option maxRecDepth 10000 in
set_option maxHeartbeats 16000000 in
theorem rmoney_ac (t : Nat) (l : List Cl) (ht : t ≤ 1099511627776) (hl : l.length ≤ 41) (hm : l.all mayC = true) :
    AC Try.prog 20 [.d (.sc (.int .i64 ((t : Nat) : Int))), .d (.sl 5 (l.map Cl.enc))] [] [] (fun r _ => r = .tup [.d (.sl 1 ((docM l t 5).1.map nN)), .d (.sc (.int .i64 (((docM l t 5).2 : Nat) : Int)))]) := by
  have hmm : ∀ x ∈ l, 0 ≤ x.am ∧ x.am ≤ 1099511627776 := fun x hx => by
    have := mayC_of (List.all_eq_true.1 hm x hx)
    exact ⟨this.2.2.2.2.2.2.1, this.2.2.2.2.2.2.2⟩
  have z1 : (docM l t 0).1.map nN = List.replicate l.length [D.sc (.int .i64 0)] := by
    show (List.replicate l.length 0).map nN = _
    rw [List.map_replicate]; rfl
  refine AC_enter Try.func20 rfl Try.ntmps20 (rv := [.tmp 4, .tmp 5]) rfl rfl (by simp) (fun w X G => ?_)
  repeat' (first | ((with_reducible refine gA ?_); (first | refine AW_seq ?_ | refine AW_region ?_ | refine AW_block ?_)) | ((with_reducible refine gS ?_); refine Es_s (T := Try.tab) rfl rfl rfl rfl ?_) | (((with_reducible refine gS ?_); apply Es_xs); rfl; rfl; (refine LStep_makeOwn (T := Try.tab) rfl rfl rfl rfl rfl rfl rfl rfl rfl rfl ?_ ?_ ?_ ?_; omega; omega; omega; omega); rfl) | (((with_reducible refine gS ?_); apply Es_q); rfl; rfl; refine LStep_lenM (T := Try.tab) rfl rfl rfl rfl) | (with_reducible refine Es_nil ?_) | (with_reducible refine then_n ?_))
  simp only [Int.toNat_natCast]
  refine AW_forE (S := Nat) (fun r => r ≤ 5) (fun r => [(7, .d (.sc (.int .i64 (r : Nat)))), (0, .d (.sc (.int .i64 (((docM l t r).2 : Nat) : Int))))]) (fun r => [(16, some (.arr 2 1 ((docM l t r).1.map nN)))]) (fun r => 5 - r) 0 (by omega) (by (repeat' (first | exact trivial | exact rfl | (refine ⟨Or.inl rfl, ?_⟩) | (refine ⟨Or.inr rfl, ?_⟩) | (refine ⟨Or.inr trivial, ?_⟩) | (refine ⟨rfl, ?_⟩) | (refine ⟨?_, ?_⟩)))) (by rw [z1]; (repeat' (first | exact trivial | exact rfl | (refine ⟨Or.inl rfl, ?_⟩) | (refine ⟨Or.inr rfl, ?_⟩) | (refine ⟨Or.inr trivial, ?_⟩) | (refine ⟨rfl, ?_⟩) | (refine ⟨?_, ?_⟩)))) ?_
  clear z1
  intro r hr
  by_cases hr5 : r < 5
  · have g2 : ltb ((r : Nat) : Int) 5 = true := by rw [ltb_t]; omega
    have eD : docM l t (r + 1) = docS l (docM l t r) r := rfl
    have o1 := docM_len l t r
    have o2 := docM_le l t r
    have o3 := docM_each l t r
    have lW := wtA_len ((r : Nat) : Int) l
    have hWb : ∀ x ∈ wtA ((r : Nat) : Int) l, x ≤ 1099511627776 := fun x hx => by
      unfold wtA at hx
      obtain ⟨y, hy, rfl⟩ := List.mem_map.1 hx
      have := hmm y hy
      split <;> omega
    have hWs : (wtA ((r : Nat) : Int) l).sum ≤ 45079976738816 := by
      have h1 := sum_le _ _ hWb
      have : (wtA ((r : Nat) : Int) l).length * 1099511627776 ≤ 41 * 1099511627776 := Nat.mul_le_mul_right _ (by omega)
      omega
    have hWat : ∀ (k : Nat) (x : Cl), l[k]? = some x → (wtA ((r : Nat) : Int) l)[k]? = some (if x.rt = ((r : Nat) : Int) then x.am.toNat else 0) := fun k x hx => by
      unfold wtA
      rw [List.getElem?_map, hx]; rfl
    unfold docS at eD
    generalize hfd : docM l t (r + 1) = st' at *
    generalize (docM l t r).1 = o at *
    generalize (docM l t r).2 = p at *
    generalize wtA ((r : Nat) : Int) l = W at *
    have z2 : (fillV W 0).map nN = List.replicate l.length [D.sc (.int .i64 0)] := by rw [fillV_zero, List.map_replicate, lW]; rfl
    repeat' (first | ((with_reducible refine gA ?_); (first | refine AW_seq ?_ | refine AW_region ?_ | (refine AW_condY rfl ?_ ?_; assumption) | refine AW_block ?_ | refine AW_skip ?_)) | ((with_reducible refine gS ?_); refine Es_s (T := Try.tab) rfl rfl rfl rfl ?_) | (((with_reducible refine gS ?_); apply Es_xs); rfl; rfl; (refine LStep_makeOwn (T := Try.tab) rfl rfl rfl rfl rfl rfl rfl rfl rfl rfl ?_ ?_ ?_ ?_; omega; omega; omega; omega); rfl) | (((with_reducible refine gS ?_); apply Es_q); rfl; rfl; refine LStep_lenM (T := Try.tab) rfl rfl rfl rfl) | (with_reducible refine Es_nil ?_) | (with_reducible refine then_n ?_))
    simp only [Int.toNat_natCast]
    refine AW_forE (S := Nat) (fun k => k ≤ l.length) (fun k => [(10, .d (.sc (.int .i64 (k : Nat)))), (9, .d (.sc (.int .i64 (((W.take k).sum : Nat) : Int))))]) (fun k => [(23, some (.arr 2 1 ((fillV W k).map nN)))]) (fun k => l.length - k) 0 (by omega) (by (repeat' (first | exact trivial | exact rfl | (refine ⟨Or.inl rfl, ?_⟩) | (refine ⟨Or.inr rfl, ?_⟩) | (refine ⟨Or.inr trivial, ?_⟩) | (refine ⟨rfl, ?_⟩) | (refine ⟨?_, ?_⟩)))) (by rw [z2]; (repeat' (first | exact trivial | exact rfl | (refine ⟨Or.inl rfl, ?_⟩) | (refine ⟨Or.inr rfl, ?_⟩) | (refine ⟨Or.inr trivial, ?_⟩) | (refine ⟨rfl, ?_⟩) | (refine ⟨?_, ?_⟩)))) ?_
    clear z2
    intro k hk
    by_cases hlt : k < l.length
    · obtain ⟨⟨nm, th, rt, dy, am⟩, hx, _⟩ := drop_at hlt
      have hma := hmm _ (List.mem_of_getElem? hx)
      have hwk := hWat k _ hx
      dsimp only at hma hwk
      obtain ⟨a, rfl⟩ : ∃ a : Nat, am = (a : Int) := ⟨am.toNat, by omega⟩
      rw [Int.toNat_natCast] at hwk
      have g3 : ltb (k : Nat) (l.length : Nat) = true := by rw [ltb_t]; omega
      have k1 := fillV_at (l := W) (i := k) (by omega)
      have n1 := fillV_len (l := W) (i := k) (by omega)
      have hle := sum_take_le W (k + 1)
      by_cases hrt : rt = ((r : Nat) : Int)
      · rw [if_pos hrt] at hwk
        have g4 : eqb rt ((r : Nat) : Int) = true := eqb_t.2 hrt
        have hst := sum_take_at hwk
        have e1 := map_fill (e := nN) hwk
        generalize hE1 : (fillV W (k + 1)).map nN = E1 at *
        generalize fillV W k = L1 at *
        generalize hu' : (W.take (k + 1)).sum = u' at *
        generalize (W.take k).sum = u at *
        have s1 : AV.d (.sc (.int .i64 (wrp .i64 (((u : Nat) : Int) + ((a : Nat) : Int))))) = AV.d (.sc (.int .i64 ((u' : Nat) : Int))) := by rw [wrp_fit (by omega)]; congr 3; omega
        repeat' (first | ((with_reducible refine gA ?_); (first | refine AW_seq ?_ | refine AW_region ?_ | (refine AW_condY rfl ?_ ?_; assumption) | refine AW_block ?_ | refine AW_skip ?_)) | (((with_reducible refine gS ?_); apply Es_q); rfl; rfl; refine LStep_fitQ (T := Try.tab) rfl rfl s1) | ((with_reducible refine gS ?_); refine Es_s (T := Try.tab) rfl rfl rfl rfl ?_) | (((with_reducible refine gS ?_); apply Es_q); rfl; rfl; (refine LStep_indexOwnM (T := Try.tab) rfl rfl rfl rfl rfl rfl rfl ?_ ?_; (rw [List.length_map]; omega); (rw [List.length_map]; omega))) | (((with_reducible refine gS ?_); apply Es_xn); rfl; rfl; (refine LStep_storeEM (T := Try.tab) rfl rfl rfl rfl rfl rfl rfl rfl ?_ k1 rfl; (rw [List.length_map]; omega)); rfl) | (((with_reducible refine gS ?_); apply Es_q); rfl; rfl; (first | refine LStep_lenM (T := Try.tab) rfl rfl rfl rfl | (refine LStep_add rfl rfl rfl rfl ?_; (refine IntWalk.i64_in _ ?_; first | omega | (simp only [cmps] at *; omega))) | (refine LStep_indexM (T := Try.tab) (c := ?_) rfl rfl rfl rfl rfl rfl ?_; rotate_left; assumption))) | (with_reducible refine Es_nil ?_) | (with_reducible refine then_n ?_) | (with_reducible refine block_n ?_))
        all_goals first
          | (refine ⟨k + 1, by omega, by omega, ?_, by (repeat' (first | exact trivial | exact rfl | (refine ⟨Or.inl rfl, ?_⟩) | (refine ⟨Or.inr rfl, ?_⟩) | (refine ⟨Or.inr trivial, ?_⟩) | (refine ⟨rfl, ?_⟩) | (refine ⟨?_, ?_⟩))), ?_, by (repeat' (first | exact trivial | exact rfl | (refine ⟨Or.inl rfl, ?_⟩) | (refine ⟨Or.inr rfl, ?_⟩) | (refine ⟨Or.inr trivial, ?_⟩) | (refine ⟨rfl, ?_⟩) | (refine ⟨?_, ?_⟩)))⟩
             · rw [hu']; (repeat' (first | exact trivial | exact rfl | (refine ⟨Or.inl rfl, ?_⟩) | (refine ⟨Or.inr rfl, ?_⟩) | (refine ⟨Or.inr trivial, ?_⟩) | (refine ⟨rfl, ?_⟩) | (refine ⟨?_, ?_⟩)))
             · rw [hE1, ← e1]; (repeat' (first | exact trivial | exact rfl | (refine ⟨Or.inl rfl, ?_⟩) | (refine ⟨Or.inr rfl, ?_⟩) | (refine ⟨Or.inr trivial, ?_⟩) | (refine ⟨rfl, ?_⟩) | (refine ⟨?_, ?_⟩))))
          | trace_state
      · rw [if_neg hrt] at hwk
        have g4 : eqb rt ((r : Nat) : Int) = false := eqb_f.2 hrt
        have hst := sum_take_at hwk
        have e1 := fillV_skip hwk
        rw [Nat.add_zero] at hst
        generalize hE1 : fillV W (k + 1) = E1 at *
        generalize fillV W k = L1 at *
        generalize hu' : (W.take (k + 1)).sum = u' at *
        generalize (W.take k).sum = u at *
        subst e1
        subst hst
        repeat' (first | ((with_reducible refine gA ?_); (first | refine AW_seq ?_ | refine AW_region ?_ | (refine AW_condY rfl ?_ ?_; assumption) | (refine AW_condN rfl ?_ ?_; assumption) | refine AW_block ?_ | refine AW_skip ?_)) | ((with_reducible refine gS ?_); refine Es_s (T := Try.tab) rfl rfl rfl rfl ?_) | (((with_reducible refine gS ?_); apply Es_q); rfl; rfl; (first | refine LStep_lenM (T := Try.tab) rfl rfl rfl rfl | (refine LStep_add rfl rfl rfl rfl ?_; (refine IntWalk.i64_in _ ?_; first | omega | (simp only [cmps] at *; omega))) | (refine LStep_indexM (T := Try.tab) (c := ?_) rfl rfl rfl rfl rfl rfl ?_; rotate_left; assumption))) | (with_reducible refine Es_nil ?_) | (with_reducible refine then_n ?_) | (with_reducible refine block_n ?_))
        all_goals first
          | (refine ⟨k + 1, by omega, by omega, ?_, by (repeat' (first | exact trivial | exact rfl | (refine ⟨Or.inl rfl, ?_⟩) | (refine ⟨Or.inr rfl, ?_⟩) | (refine ⟨Or.inr trivial, ?_⟩) | (refine ⟨rfl, ?_⟩) | (refine ⟨?_, ?_⟩))), ?_, by (repeat' (first | exact trivial | exact rfl | (refine ⟨Or.inl rfl, ?_⟩) | (refine ⟨Or.inr rfl, ?_⟩) | (refine ⟨Or.inr trivial, ?_⟩) | (refine ⟨rfl, ?_⟩) | (refine ⟨?_, ?_⟩)))⟩
             · rw [hu']; (repeat' (first | exact trivial | exact rfl | (refine ⟨Or.inl rfl, ?_⟩) | (refine ⟨Or.inr rfl, ?_⟩) | (refine ⟨Or.inr trivial, ?_⟩) | (refine ⟨rfl, ?_⟩) | (refine ⟨?_, ?_⟩)))
             · rw [hE1]; (repeat' (first | exact trivial | exact rfl | (refine ⟨Or.inl rfl, ?_⟩) | (refine ⟨Or.inr rfl, ?_⟩) | (refine ⟨Or.inr trivial, ?_⟩) | (refine ⟨rfl, ?_⟩) | (refine ⟨?_, ?_⟩))))
          | trace_state
    have : k = l.length := by omega
    subst this
    have g3 : ltb (l.length : Nat) (l.length : Nat) = false := by rw [ltb_f]; omega
    have w1 : W.take l.length = W := by rw [← lW, List.take_length]
    have w2 : fillV W l.length = W := by rw [← lW, fillV_all]
    rw [w1, w2]
    clear w1 w2
    refine AW_freeze [8] (id := 23) ⟨rfl, trivial⟩ rfl (show (W.map nN).length = l.length by rw [List.length_map]; exact lW) ?_
    have hoW : o.length = W.length := by omega
    by_cases hc : W.sum ≤ p
    · rw [if_pos hc] at eD
      have g5 : leb ((W.sum : Nat) : Int) ((p : Nat) : Int) = true := by rw [leb_t]; omega
      have s3 : AV.d (.sc (.int .i64 (wrp .i64 (((p : Nat) : Int) - ((W.sum : Nat) : Int))))) = AV.d (.sc (.int .i64 ((p - W.sum : Nat) : Int))) := by rw [wrp_fit (by omega)]; congr 3; omega
      repeat' (first | ((with_reducible refine gA ?_); (first | refine AW_seq ?_ | refine AW_region ?_ | (refine AW_condY rfl ?_ ?_; assumption) | (refine AW_condN rfl ?_ ?_; assumption) | refine AW_block ?_ | refine AW_exit ?_)) | ((with_reducible refine gS ?_); refine Es_s (T := Try.tab) rfl rfl rfl rfl ?_) | (((with_reducible refine gS ?_); apply Es_q); rfl; rfl; refine LStep_lenM (T := Try.tab) rfl rfl rfl rfl) | (with_reducible refine Es_nil ?_) | (with_reducible refine then_n ?_) | (with_reducible refine then_e ?_) | ((with_reducible refine block_e ?_ ?_); rfl))
      refine AW_forE (S := Nat) (fun i => i ≤ l.length) (fun i => [(11, .d (.sc (.int .i64 (i : Nat))))]) (fun i => [(16, some (.arr 2 1 ((addP o W i).map nN)))]) (fun i => l.length - i) 0 (by omega) (by (repeat' (first | exact trivial | exact rfl | (refine ⟨Or.inl rfl, ?_⟩) | (refine ⟨Or.inr rfl, ?_⟩) | (refine ⟨Or.inr trivial, ?_⟩) | (refine ⟨rfl, ?_⟩) | (refine ⟨?_, ?_⟩)))) (by rw [addP_zero]; (repeat' (first | exact trivial | exact rfl | (refine ⟨Or.inl rfl, ?_⟩) | (refine ⟨Or.inr rfl, ?_⟩) | (refine ⟨Or.inr trivial, ?_⟩) | (refine ⟨rfl, ?_⟩) | (refine ⟨?_, ?_⟩)))) ?_
      intro i hi
      by_cases hlt : i < l.length
      · obtain ⟨x, hx⟩ : ∃ x, o[i]? = some x := ⟨_, List.getElem?_eq_getElem (by omega)⟩
        obtain ⟨y, hy⟩ : ∃ y, W[i]? = some y := ⟨_, List.getElem?_eq_getElem (by omega)⟩
        have hxb := o3 x (List.mem_of_getElem? hx)
        have hyb := hWb y (List.mem_of_getElem? hy)
        have a1 := addP_at hoW hx
        have a2 := addP_set hoW hx hy
        have a3 := addP_len hoW (i := i) (by omega)
        have g3 : ltb (i : Nat) (l.length : Nat) = true := by rw [ltb_t]; omega
        generalize hE : addP o W (i + 1) = E at *
        generalize addP o W i = L at *
        have e1 : (L.map nN).set i (nN (x + y)) = E.map nN := by rw [← List.map_set, a2]
        have s1 : AV.d (.sc (.int .i64 (wrp .i64 (((x : Nat) : Int) + ((y : Nat) : Int))))) = AV.d (.sc (.int .i64 ((x + y : Nat) : Int))) := by rw [wrp_fit (by omega)]; congr 3
        repeat' (first | ((with_reducible refine gA ?_); (first | refine AW_seq ?_ | refine AW_region ?_ | refine AW_regionD Try.mixed ?_ | (refine AW_condY rfl ?_ ?_; assumption) | refine AW_block ?_ | refine AW_skip ?_)) | ((first | ((with_reducible refine gS ?_); apply Es_q) | ((with_reducible refine gD ?_); apply Ed_q)); rfl; rfl; refine LStep_fitQ (T := Try.tab) rfl rfl s1) | (first | ((with_reducible refine gS ?_); refine Es_s (T := Try.tab) rfl rfl rfl rfl ?_) | ((with_reducible refine gD ?_); refine Ed_s (T := Try.tab) rfl rfl rfl rfl ?_)) | ((first | ((with_reducible refine gS ?_); apply Es_q) | ((with_reducible refine gD ?_); apply Ed_q)); rfl; rfl; (first | (refine LStep_indexOwnM (T := Try.tab) rfl rfl rfl rfl rfl rfl rfl ?_ ?_; (rw [List.length_map]; omega); (rw [List.length_map]; omega)) | (refine LStep_loadEM (T := Try.tab) rfl rfl rfl rfl rfl ?_ a1 rfl; (rw [List.length_map]; omega)))) | ((first | ((with_reducible refine gS ?_); apply Es_xn) | ((with_reducible refine gD ?_); apply Ed_xn)); rfl; rfl; (refine LStep_storeEM (T := Try.tab) rfl rfl rfl rfl rfl rfl rfl rfl ?_ a1 rfl; (rw [List.length_map]; omega)); rfl) | ((first | ((with_reducible refine gS ?_); apply Es_q) | ((with_reducible refine gD ?_); apply Ed_q)); rfl; rfl; (first | refine LStep_lenM (T := Try.tab) rfl rfl rfl rfl | (refine LStep_add rfl rfl rfl rfl ?_; (refine IntWalk.i64_in _ ?_; first | omega | (simp only [cmps] at *; omega))) | (refine LStep_indexM (T := Try.tab) (c := ?_) rfl rfl rfl rfl rfl rfl ?_; rotate_left; assumption))) | (with_reducible refine Es_nil ?_) | ((with_reducible refine Ed_nil ?_ ?_); kernel_rfl) | (with_reducible refine then_n ?_) | (with_reducible refine block_n ?_))
        all_goals first
          | (refine ⟨i + 1, by omega, by omega, by (repeat' (first | exact trivial | exact rfl | (refine ⟨Or.inl rfl, ?_⟩) | (refine ⟨Or.inr rfl, ?_⟩) | (refine ⟨Or.inr trivial, ?_⟩) | (refine ⟨rfl, ?_⟩) | (refine ⟨?_, ?_⟩))), by (repeat' (first | exact trivial | exact rfl | (refine ⟨Or.inl rfl, ?_⟩) | (refine ⟨Or.inr rfl, ?_⟩) | (refine ⟨Or.inr trivial, ?_⟩) | (refine ⟨rfl, ?_⟩) | (refine ⟨?_, ?_⟩))), ?_, by (repeat' (first | exact trivial | exact rfl | (refine ⟨Or.inl rfl, ?_⟩) | (refine ⟨Or.inr rfl, ?_⟩) | (refine ⟨Or.inr trivial, ?_⟩) | (refine ⟨rfl, ?_⟩) | (refine ⟨?_, ?_⟩)))⟩
             rw [hE, ← e1]; (repeat' (first | exact trivial | exact rfl | (refine ⟨Or.inl rfl, ?_⟩) | (refine ⟨Or.inr rfl, ?_⟩) | (refine ⟨Or.inr trivial, ?_⟩) | (refine ⟨rfl, ?_⟩) | (refine ⟨?_, ?_⟩))))
          | trace_state
      · have : i = l.length := by omega
        subst this
        have g3 : ltb (l.length : Nat) (l.length : Nat) = false := by rw [ltb_f]; omega
        have w1 : addP o W l.length = addL o W := by rw [← lW, addP_all hoW]
        rw [w1]
        repeat' (first | ((with_reducible refine gA ?_); (first | refine AW_seq ?_ | refine AW_region ?_ | (refine AW_condN rfl ?_ ?_; assumption) | refine AW_exit ?_)) | (((with_reducible refine gS ?_); apply Es_q); rfl; rfl; refine LStep_fitQ (T := Try.tab) rfl rfl s3) | ((with_reducible refine gS ?_); refine Es_s (T := Try.tab) rfl rfl rfl rfl ?_) | (((with_reducible refine gS ?_); apply Es_q); rfl; rfl; (first | refine LStep_lenM (T := Try.tab) rfl rfl rfl rfl | (refine LStep_add rfl rfl rfl rfl ?_; (refine IntWalk.i64_in _ ?_; first | omega | (simp only [cmps] at *; omega))))) | (with_reducible refine Es_nil ?_) | (with_reducible refine then_n ?_) | (with_reducible refine then_e ?_) | ((with_reducible refine block_e ?_ ?_); rfl))
        all_goals first
          | (refine ⟨r + 1, by omega, by omega, ?_, by (repeat' (first | exact trivial | exact rfl | (refine ⟨Or.inl rfl, ?_⟩) | (refine ⟨Or.inr rfl, ?_⟩) | (refine ⟨Or.inr trivial, ?_⟩) | (refine ⟨rfl, ?_⟩) | (refine ⟨?_, ?_⟩))), ?_, by (repeat' (first | exact trivial | exact rfl | (refine ⟨Or.inl rfl, ?_⟩) | (refine ⟨Or.inr rfl, ?_⟩) | (refine ⟨Or.inr trivial, ?_⟩) | (refine ⟨rfl, ?_⟩) | (refine ⟨?_, ?_⟩)))⟩
             · rw [hfd, eD]; (repeat' (first | exact trivial | exact rfl | (refine ⟨Or.inl rfl, ?_⟩) | (refine ⟨Or.inr rfl, ?_⟩) | (refine ⟨Or.inr trivial, ?_⟩) | (refine ⟨rfl, ?_⟩) | (refine ⟨?_, ?_⟩)))
             · rw [hfd, eD]; (repeat' (first | exact trivial | exact rfl | (refine ⟨Or.inl rfl, ?_⟩) | (refine ⟨Or.inr rfl, ?_⟩) | (refine ⟨Or.inr trivial, ?_⟩) | (refine ⟨rfl, ?_⟩) | (refine ⟨?_, ?_⟩))))
          | trace_state
    · rw [if_neg hc] at eD
      have g5 : leb ((W.sum : Nat) : Int) ((p : Nat) : Int) = false := by rw [leb_f]; omega
      have cs := rsplit_ac p W (by omega) (by omega) hWb (by omega)
      have lP := docP_len p W
      have hPb : ∀ x ∈ docP p W, x ≤ 1099511627777 + 41 := fun x hx => by
        unfold docP at hx
        have := bump_le 1099511627776 _ _ (fun v hv => by
          have h1 := mem_le_sum hv
          have h2 := shQ_le (t := p) (ws := W) (by omega) rfl
          omega) x hx
        have h3 : ((ordR (shR p W.sum W)).take (p - (shQ p W.sum W).sum)).length ≤ 41 := by
          rw [List.length_take, ordR_len]
          unfold shR
          rw [List.length_map]
          omega
        omega
      generalize docP p W = Pp at *
      have hoP : o.length = Pp.length := by omega
      repeat' (first | ((with_reducible refine gA ?_); (first | refine AW_seq ?_ | refine AW_region ?_ | (refine AW_condN rfl ?_ ?_; assumption) | refine AW_block ?_ | refine AW_skip ?_ | refine AW_exit ?_)) | ((with_reducible refine gS ?_); refine Es_s (T := Try.tab) rfl rfl rfl rfl ?_) | (((with_reducible refine gS ?_); apply Es_q); rfl; rfl; refine LStep_call (cs) rfl rfl rfl rfl) | (((with_reducible refine gS ?_); apply Es_q); rfl; rfl; refine LStep_lenM (T := Try.tab) rfl rfl rfl rfl) | (with_reducible refine Es_nil ?_) | (with_reducible refine then_n ?_) | (with_reducible refine then_e ?_) | ((with_reducible refine block_e ?_ ?_); rfl))
      refine AW_forE (S := Nat) (fun i => i ≤ l.length) (fun i => [(13, .d (.sc (.int .i64 (i : Nat))))]) (fun i => [(16, some (.arr 2 1 ((addP o Pp i).map nN)))]) (fun i => l.length - i) 0 (by omega) (by (repeat' (first | exact trivial | exact rfl | (refine ⟨Or.inl rfl, ?_⟩) | (refine ⟨Or.inr rfl, ?_⟩) | (refine ⟨Or.inr trivial, ?_⟩) | (refine ⟨rfl, ?_⟩) | (refine ⟨?_, ?_⟩)))) (by rw [addP_zero]; (repeat' (first | exact trivial | exact rfl | (refine ⟨Or.inl rfl, ?_⟩) | (refine ⟨Or.inr rfl, ?_⟩) | (refine ⟨Or.inr trivial, ?_⟩) | (refine ⟨rfl, ?_⟩) | (refine ⟨?_, ?_⟩)))) ?_
      intro i hi
      by_cases hlt : i < l.length
      · obtain ⟨x, hx⟩ : ∃ x, o[i]? = some x := ⟨_, List.getElem?_eq_getElem (by omega)⟩
        obtain ⟨y, hy⟩ : ∃ y, Pp[i]? = some y := ⟨_, List.getElem?_eq_getElem (by omega)⟩
        have hxb := o3 x (List.mem_of_getElem? hx)
        have hyb := hPb y (List.mem_of_getElem? hy)
        have a1 := addP_at hoP hx
        have a2 := addP_set hoP hx hy
        have a3 := addP_len hoP (i := i) (by omega)
        have g3 : ltb (i : Nat) (l.length : Nat) = true := by rw [ltb_t]; omega
        generalize hE : addP o Pp (i + 1) = E at *
        generalize addP o Pp i = L at *
        have e1 : (L.map nN).set i (nN (x + y)) = E.map nN := by rw [← List.map_set, a2]
        have s1 : AV.d (.sc (.int .i64 (wrp .i64 (((x : Nat) : Int) + ((y : Nat) : Int))))) = AV.d (.sc (.int .i64 ((x + y : Nat) : Int))) := by rw [wrp_fit (by omega)]; congr 3
        repeat' (first | ((with_reducible refine gA ?_); (first | refine AW_seq ?_ | refine AW_region ?_ | refine AW_regionD Try.mixed ?_ | (refine AW_condY rfl ?_ ?_; assumption) | refine AW_block ?_ | refine AW_skip ?_)) | ((first | ((with_reducible refine gS ?_); apply Es_q) | ((with_reducible refine gD ?_); apply Ed_q)); rfl; rfl; refine LStep_fitQ (T := Try.tab) rfl rfl s1) | (first | ((with_reducible refine gS ?_); refine Es_s (T := Try.tab) rfl rfl rfl rfl ?_) | ((with_reducible refine gD ?_); refine Ed_s (T := Try.tab) rfl rfl rfl rfl ?_)) | ((first | ((with_reducible refine gS ?_); apply Es_q) | ((with_reducible refine gD ?_); apply Ed_q)); rfl; rfl; (first | (refine LStep_indexOwnM (T := Try.tab) rfl rfl rfl rfl rfl rfl rfl ?_ ?_; (rw [List.length_map]; omega); (rw [List.length_map]; omega)) | (refine LStep_loadEM (T := Try.tab) rfl rfl rfl rfl rfl ?_ a1 rfl; (rw [List.length_map]; omega)))) | ((first | ((with_reducible refine gS ?_); apply Es_xn) | ((with_reducible refine gD ?_); apply Ed_xn)); rfl; rfl; (refine LStep_storeEM (T := Try.tab) rfl rfl rfl rfl rfl rfl rfl rfl ?_ a1 rfl; (rw [List.length_map]; omega)); rfl) | ((first | ((with_reducible refine gS ?_); apply Es_q) | ((with_reducible refine gD ?_); apply Ed_q)); rfl; rfl; (first | refine LStep_lenM (T := Try.tab) rfl rfl rfl rfl | (refine LStep_add rfl rfl rfl rfl ?_; (refine IntWalk.i64_in _ ?_; first | omega | (simp only [cmps] at *; omega))) | (refine LStep_indexM (T := Try.tab) (c := ?_) rfl rfl rfl rfl rfl rfl ?_; rotate_left; assumption))) | (with_reducible refine Es_nil ?_) | ((with_reducible refine Ed_nil ?_ ?_); kernel_rfl) | (with_reducible refine then_n ?_) | (with_reducible refine block_n ?_))
        all_goals first
          | (refine ⟨i + 1, by omega, by omega, by (repeat' (first | exact trivial | exact rfl | (refine ⟨Or.inl rfl, ?_⟩) | (refine ⟨Or.inr rfl, ?_⟩) | (refine ⟨Or.inr trivial, ?_⟩) | (refine ⟨rfl, ?_⟩) | (refine ⟨?_, ?_⟩))), by (repeat' (first | exact trivial | exact rfl | (refine ⟨Or.inl rfl, ?_⟩) | (refine ⟨Or.inr rfl, ?_⟩) | (refine ⟨Or.inr trivial, ?_⟩) | (refine ⟨rfl, ?_⟩) | (refine ⟨?_, ?_⟩))), ?_, by (repeat' (first | exact trivial | exact rfl | (refine ⟨Or.inl rfl, ?_⟩) | (refine ⟨Or.inr rfl, ?_⟩) | (refine ⟨Or.inr trivial, ?_⟩) | (refine ⟨rfl, ?_⟩) | (refine ⟨?_, ?_⟩)))⟩
             rw [hE, ← e1]; (repeat' (first | exact trivial | exact rfl | (refine ⟨Or.inl rfl, ?_⟩) | (refine ⟨Or.inr rfl, ?_⟩) | (refine ⟨Or.inr trivial, ?_⟩) | (refine ⟨rfl, ?_⟩) | (refine ⟨?_, ?_⟩))))
          | trace_state
      · have : i = l.length := by omega
        subst this
        have g3 : ltb (l.length : Nat) (l.length : Nat) = false := by rw [ltb_f]; omega
        have w1 : addP o Pp l.length = addL o Pp := by rw [← lW, ← lP, addP_all hoP]
        rw [w1]
        repeat' (first | ((with_reducible refine gA ?_); (first | refine AW_seq ?_ | refine AW_region ?_ | (refine AW_condN rfl ?_ ?_; assumption) | refine AW_exit ?_)) | ((with_reducible refine gS ?_); refine Es_s (T := Try.tab) rfl rfl rfl rfl ?_) | (((with_reducible refine gS ?_); apply Es_q); rfl; rfl; (first | refine LStep_lenM (T := Try.tab) rfl rfl rfl rfl | (refine LStep_add rfl rfl rfl rfl ?_; (refine IntWalk.i64_in _ ?_; first | omega | (simp only [cmps] at *; omega))))) | (with_reducible refine Es_nil ?_) | (with_reducible refine then_n ?_) | (with_reducible refine then_e ?_) | (with_reducible refine block_n ?_) | ((with_reducible refine block_e ?_ ?_); rfl))
        all_goals first
          | (refine ⟨r + 1, by omega, by omega, ?_, by (repeat' (first | exact trivial | exact rfl | (refine ⟨Or.inl rfl, ?_⟩) | (refine ⟨Or.inr rfl, ?_⟩) | (refine ⟨Or.inr trivial, ?_⟩) | (refine ⟨rfl, ?_⟩) | (refine ⟨?_, ?_⟩))), ?_, by (repeat' (first | exact trivial | exact rfl | (refine ⟨Or.inl rfl, ?_⟩) | (refine ⟨Or.inr rfl, ?_⟩) | (refine ⟨Or.inr trivial, ?_⟩) | (refine ⟨rfl, ?_⟩) | (refine ⟨?_, ?_⟩)))⟩
             · rw [hfd, eD]; (repeat' (first | exact trivial | exact rfl | (refine ⟨Or.inl rfl, ?_⟩) | (refine ⟨Or.inr rfl, ?_⟩) | (refine ⟨Or.inr trivial, ?_⟩) | (refine ⟨rfl, ?_⟩) | (refine ⟨?_, ?_⟩)))
             · rw [hfd, eD]; (repeat' (first | exact trivial | exact rfl | (refine ⟨Or.inl rfl, ?_⟩) | (refine ⟨Or.inr rfl, ?_⟩) | (refine ⟨Or.inr trivial, ?_⟩) | (refine ⟨rfl, ?_⟩) | (refine ⟨?_, ?_⟩))))
          | trace_state
  · have : r = 5 := by omega
    subst this
    have g2 : ltb ((5 : Nat) : Int) 5 = false := by rw [ltb_f]; omega
    have o1 := docM_len l t 5
    generalize (docM l t 5).1 = o at *
    generalize (docM l t 5).2 = p at *
    repeat' (first | ((with_reducible refine gRc ?_); refine AW_freeze [4] (id := 16) ⟨rfl, trivial⟩ rfl (show (o.map nN).length = l.length by rw [List.length_map]; exact o1) ?_) | ((with_reducible refine gA ?_); (first | refine AW_seq ?_ | refine AW_region ?_ | (refine AW_condN rfl ?_ ?_; assumption) | refine AW_ret ?_ | refine AW_exit ?_)) | ((with_reducible refine gS ?_); refine Es_s (T := Try.tab) rfl rfl rfl rfl ?_) | (with_reducible refine Es_nil ?_) | (with_reducible refine then_n ?_) | (with_reducible refine then_e ?_) | ((with_reducible refine block_e ?_ ?_); rfl) | ((with_reducible refine gR ?_); first | refine ret1 rfl ?_ | refine ret2 rfl rfl ?_ | refine ret0 ?_ | refine end1 rfl ?_ | refine end0 ?_))
    all_goals first
      | rfl
      | trace_state
end Go.Proofs.Ytldfncafkdmoiaa
