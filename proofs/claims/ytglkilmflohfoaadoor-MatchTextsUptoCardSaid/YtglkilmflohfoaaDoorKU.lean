/- Numbers in decimals: what the document's digits are. -/
import Derived.Test.YtglkilmflohfoaaDoorKT
import Derived.Laws.BytesArg
namespace Go.Proofs.YtglkilmflohfoaaDoor
open Go.SL Go.Proofs
section
variable {P : Program} {O : Org} {T : Tab P} {env : Env} {h : Hp} {o : Oper}
theorem LStep_bytesStrD {src dst e : Nat} {x : Operand} {xs : List Int} (ho : o.op = .convert src dst x) (hS : T.desc src = some (.slice e)) (hE : T.desc e = some (.int .u8)) (hD : T.desc dst = some .string) (hx : evalA env x = .d (.sl 1 (xs.map fun n => [.sc (.int .u8 n)]))) (h0 : 0 < xs.length) (hd : dstOk o.dst O.nt = true) :
    LStep P O o env h [] [] (.d (.sc (.string (strOfNums xs)))) [] := by
  refine .quiet hd (fun env' h' he _ a w G r => ⟨.string (strOfNums xs), ?_, .d _ _ (.sc _ rfl)⟩)
  have h1 := evalA_rep r.env x
  rw [he x (by simp [ho, Op.operands]), hx] at h1
  generalize hv : a.eval x = xv at h1
  cases h1 with
  | d _ _ h1 =>
    cases h1 with
    | sl _ _ A n c b off vs hn hcap hA hsz hcell hrep =>
      rw [List.length_map] at hn
      obtain ⟨rfl, _, _⟩ := hA (by omega)
      have := run_convert_bytes_arg (P := P) w src e (T.desc_ok hS) (T.desc_ok hE) b off n c xs hn (fun i hi => by
        have hi' : i < xs.length := by omega
        have e1 : (xs.map fun n => [D.sc (.int .u8 n)])[i]? = some [.sc (.int .u8 xs[i])] := by rw [List.getElem?_map, List.getElem?_eq_getElem hi']; rfl
        have e2 := hcell i _ e1 0 _ rfl
        have e3 := hrep i _ e1 0 _ rfl
        rw [Nat.mul_one, Nat.add_zero] at e2
        generalize vs i 0 = v at e2 e3
        cases e3 with
        | sc _ _ => rw [e2, List.getD_eq_getElem?_getD, List.getElem?_eq_getElem hi']; rfl) dst (T.desc_ok hD)
      simp [execOp, ho, hv, this]
theorem LStep_quoD {t yt : Nat} {x y : Operand} {k : IntKind} {m n q : Int} (ho : o.op = .binOp .quo t x y yt) (hx : evalA env x = .d (.sc (.int k m))) (hy : evalA env y = .d (.sc (.int k n))) (hn : n ≠ 0) (hq : k.wrap (m.tdiv n) = q) (hd : dstOk o.dst O.nt = true) :
    LStep P O o env h [] [] (.d (.sc (.int k q))) [] := by
  subst hq
  refine .quiet hd (fun env' h' he _ a w G r => ?_)
  have h1 := evalA_rep r.env x
  have h2 := evalA_rep r.env y
  rw [he x (by simp [ho, Op.operands]), hx] at h1
  rw [he y (by simp [ho, Op.operands]), hy] at h2
  exact ⟨.int k (k.wrap (m.tdiv n)), by simp [execOp, ho, h1.sc_inv, h2.sc_inv, eqGuard, binOp, Op.intDiv, hn], .d _ _ (.sc _ rfl)⟩
theorem LStep_remD {t yt : Nat} {x y : Operand} {k : IntKind} {m n q : Int} (ho : o.op = .binOp .rem t x y yt) (hx : evalA env x = .d (.sc (.int k m))) (hy : evalA env y = .d (.sc (.int k n))) (hn : n ≠ 0) (hq : m.tmod n = q) (hd : dstOk o.dst O.nt = true) :
    LStep P O o env h [] [] (.d (.sc (.int k q))) [] := by
  subst hq
  refine .quiet hd (fun env' h' he _ a w G r => ?_)
  have h1 := evalA_rep r.env x
  have h2 := evalA_rep r.env y
  rw [he x (by simp [ho, Op.operands]), hx] at h1
  rw [he y (by simp [ho, Op.operands]), hy] at h2
  exact ⟨.int k (m.tmod n), by simp [execOp, ho, h1.sc_inv, h2.sc_inv, eqGuard, binOp, Op.intDiv, hn], .d _ _ (.sc _ rfl)⟩
end
theorem ba_ext {a b : ByteArray} (h : a.data.toList = b.data.toList) : a = b := by
  cases a; cases b
  exact congrArg ByteArray.mk (Array.toList_inj.1 h)
theorem dig_num (d : Nat) : (strOfNums [48 + (d : Int)]).data.toList = [UInt8.ofNat (48 + d)] := by
  rw [strOfNums_data, List.map_cons, List.map_nil, show (48 + (d : Int)).toNat = 48 + d by omega]
theorem dig_neg (d : Nat) : (strOfNums [48 - -(d : Int)]).data.toList = [UInt8.ofNat (48 + d)] := by
  rw [strOfNums_data, List.map_cons, List.map_nil, show (48 - -(d : Int)).toNat = 48 + d by omega]
theorem dec_small {m : Nat} (h : m < 10) : Lib.decDigits m = [UInt8.ofNat (48 + m)] := by rw [Lib.decDigits, dif_pos h]
theorem dec_big {m : Nat} (h : ¬ m < 10) : Lib.decDigits m = Lib.decDigits (m / 10) ++ [UInt8.ofNat (48 + m % 10)] := by rw [Lib.decDigits, dif_neg h]
theorem strOf_size1 (x : Int) : (strOfNums [x]).size = 1 := by rw [strOfNums_size]; rfl
theorem u8_fitD {n : Int} (h : 0 ≤ n ∧ n < 256) : IntKind.u8.wrap n = n := by
  simp [IntKind.wrap, IntKind.bits, IntKind.signed]
  omega
theorem ba_s0 : ByteArray.size ⟨#[]⟩ = 0 := rfl
theorem ba_s1 (c : UInt8) : ByteArray.size ⟨#[c]⟩ = 1 := rfl
set_option maxRecDepth 10000 in
theorem digitsNeg_ac (N : Nat) (h0 : 0 < N) (h1 : N ≤ 9223372036854775808) : AC Tryd.prog 14 [.d (.sc (.int .i64 (-(N : Int))))] [] [] (fun r _ => r = .d (.sc (.string ⟨(Lib.itoa (-(N : Int))).toArray⟩))) := by
  refine AC_enter Tryd.func14 rfl Tryd.ntmps14 (rv := [.tmp 2]) rfl rfl (by simp) (fun w X G => ?_)
  repeat' (first | ((with_reducible refine gA ?_); (first | refine AW_seq ?_ | refine AW_region ?_ | (refine AW_cond rfl (fun hc => ?_) (fun hc => ?_) <;> try (exfalso; simp only [cmpL] at hc; omega)) | refine AW_block ?_)) | ((with_reducible refine gS ?_); refine Es_s (T := Tryd.tab) rfl rfl rfl rfl ?_) | (with_reducible refine Es_nil ?_) | (with_reducible refine then_n ?_))
  refine AW_forE (S := Nat × ByteArray) (fun s => s.1 ≤ N ∧ 8 * s.2.size + s.1 ≤ N ∧ Lib.decDigits N = Lib.decDigits s.1 ++ s.2.data.toList) (fun s => [(0, .d (.sc (.int .i64 (-(s.1 : Int))))), (3, .d (.sc (.string s.2)))]) (fun _ => []) (fun s => s.1) (N, ⟨#[]⟩) ⟨Nat.le_refl _, by rw [ba_s0]; omega, by simp⟩ (by (repeat' (first | exact trivial | exact rfl | (refine ⟨Or.inl rfl, ?_⟩) | (refine ⟨Or.inr rfl, ?_⟩) | (refine ⟨Or.inr trivial, ?_⟩) | (refine ⟨rfl, ?_⟩) | (refine ⟨?_, ?_⟩)))) (by (repeat' (first | exact trivial | exact rfl | (refine ⟨Or.inl rfl, ?_⟩) | (refine ⟨Or.inr rfl, ?_⟩) | (refine ⟨Or.inr trivial, ?_⟩) | (refine ⟨rfl, ?_⟩) | (refine ⟨?_, ?_⟩)))) ?_
  intro ⟨m, s⟩ ⟨i1, i2, i3⟩
  dsimp only at i1 i2 i3 ⊢
  have r0 : (-(m : Int)).tmod 10 = -((m % 10 : Nat) : Int) := by rw [Int.neg_tmod]; rfl
  have q0 : IntKind.i64.wrap ((-(m : Int)).tdiv 10) = -((m / 10 : Nat) : Int) := by
    rw [Int.neg_tdiv, show (m : Int).tdiv 10 = ((m / 10 : Nat) : Int) from rfl, IntKind.wrap_i64]
    omega
  have hd : m % 10 < 10 := Nat.mod_lt _ (by omega)
  have hm : m % 10 + 10 * (m / 10) = m := Nat.mod_add_div m 10
  generalize hdd : m % 10 = d at *
  repeat' (first | ((with_reducible refine gA ?_); (first | refine AW_seq ?_ | refine AW_region ?_ | (refine AW_cond rfl (fun hc => ?_) (fun hc => ?_) <;> try (exfalso; simp only [cmpL] at hc; omega)) | refine AW_block ?_ | refine AW_ret ?_ | refine AW_skip ?_ | refine AW_exit ?_)) | (((with_reducible refine gS ?_); apply Es_q); rfl; rfl; (refine LStep_conv (T := Tryd.tab) rfl rfl rfl rfl rfl ?_; (refine u8_fitD ?_; omega))) | ((with_reducible refine gS ?_); refine Es_s (T := Tryd.tab) rfl rfl rfl rfl ?_) | (((with_reducible refine gS ?_); apply Es_q); rfl; rfl; (first | (refine LStep_remD rfl rfl rfl ?_ r0 rfl; omega) | (refine LStep_quoD rfl rfl rfl ?_ q0 rfl; omega) | (refine LStep_cat rfl rfl rfl rfl ?_; (simp only [strOf_size1, ba_size, ba_s1]; omega)) | (refine LStep_bytesStrD (T := Tryd.tab) (xs := [48 - -(d : Int)]) rfl rfl rfl rfl rfl ?_ rfl; (simp only [List.length_cons, List.length_nil]; omega)))) | (((with_reducible refine gS ?_); apply Es_q); rfl; rfl; (first | (refine LStep_sub rfl rfl rfl rfl ?_; (refine IntWalk.i64_in _ ?_; first | omega | (simp only [cmps] at *; omega))) | (refine LStep_lit (T := Tryd.tab) rfl rfl rfl rfl rfl rfl rfl rfl ?_; (refine Nat.le_of_ble_eq_true ?_; rfl)))) | (with_reducible refine Es_nil ?_) | (with_reducible refine then_n ?_) | (with_reducible refine then_r ?_) | (with_reducible refine then_e ?_) | (with_reducible refine block_n ?_) | ((with_reducible refine block_e ?_ ?_); rfl) | ((with_reducible refine gR ?_); first | refine ret1 rfl ?_ | refine ret2 rfl rfl ?_ | refine ret0 ?_ | refine end1 rfl ?_ | refine end0 ?_))
  all_goals simp only [cmps] at *
  · refine ⟨(m / 10, strOfNums [48 - -(d : Int)] ++ s), ?_, by omega, by (repeat' (first | exact trivial | exact rfl | (refine ⟨Or.inl rfl, ?_⟩) | (refine ⟨Or.inr rfl, ?_⟩) | (refine ⟨Or.inr trivial, ?_⟩) | (refine ⟨rfl, ?_⟩) | (refine ⟨?_, ?_⟩))), by (repeat' (first | exact trivial | exact rfl | (refine ⟨Or.inl rfl, ?_⟩) | (refine ⟨Or.inr rfl, ?_⟩) | (refine ⟨Or.inr trivial, ?_⟩) | (refine ⟨rfl, ?_⟩) | (refine ⟨?_, ?_⟩))), by (repeat' (first | exact trivial | exact rfl | (refine ⟨Or.inl rfl, ?_⟩) | (refine ⟨Or.inr rfl, ?_⟩) | (refine ⟨Or.inr trivial, ?_⟩) | (refine ⟨rfl, ?_⟩) | (refine ⟨?_, ?_⟩))), by (repeat' (first | exact trivial | exact rfl | (refine ⟨Or.inl rfl, ?_⟩) | (refine ⟨Or.inr rfl, ?_⟩) | (refine ⟨Or.inr trivial, ?_⟩) | (refine ⟨rfl, ?_⟩) | (refine ⟨?_, ?_⟩)))⟩; exact ⟨by omega, by rw [ba_size, strOf_size1]; omega, by rw [i3, ba_app, dig_neg, dec_big (m := m) (by omega), hdd, List.append_assoc]⟩
  · have e : d = m := by omega
    subst e
    refine congrArg (fun b => AV.d (D.sc (Value.string b))) (ba_ext ?_)
    have hi : Lib.itoa (-(N : Int)) = 45 :: Lib.decDigits N := by
      unfold Lib.itoa
      rw [if_pos (by omega), Int.natAbs_neg, Int.natAbs_natCast]
    rw [ba_app, ba_app, dig_neg, hi, i3, dec_small hd]
    rfl
set_option maxRecDepth 10000 in
theorem digitsPos_ac (N : Nat) (h1 : N ≤ 9223372036854775807) : AC Tryd.prog 14 [.d (.sc (.int .i64 (N : Int)))] [] [] (fun r _ => r = .d (.sc (.string ⟨(Lib.itoa (N : Int)).toArray⟩))) := by
  have r0 : (N : Int).tmod 10 = ((N % 10 : Nat) : Int) := rfl
  have hd0 : N % 10 < 10 := Nat.mod_lt _ (by omega)
  generalize hdd0 : N % 10 = d0 at *
  refine AC_enter Tryd.func14 rfl Tryd.ntmps14 (rv := [.tmp 2]) rfl rfl (by simp) (fun w X G => ?_)
  repeat' (first | ((with_reducible refine gA ?_); (first | refine AW_seq ?_ | refine AW_region ?_ | (refine AW_cond rfl (fun hc => ?_) (fun hc => ?_) <;> try (exfalso; simp only [cmpL] at hc; omega)) | refine AW_block ?_ | refine AW_skip ?_)) | (((with_reducible refine gS ?_); apply Es_q); rfl; rfl; (refine LStep_conv (T := Tryd.tab) rfl rfl rfl rfl rfl ?_; (refine u8_fitD ?_; omega))) | ((with_reducible refine gS ?_); refine Es_s (T := Tryd.tab) rfl rfl rfl rfl ?_) | (((with_reducible refine gS ?_); apply Es_q); rfl; rfl; (first | (refine LStep_remD rfl rfl rfl ?_ r0 rfl; omega) | (refine LStep_bytesStrD (T := Tryd.tab) (xs := [48 + (d0 : Int)]) rfl rfl rfl rfl rfl ?_ rfl; (simp only [List.length_cons, List.length_nil]; omega)))) | (((with_reducible refine gS ?_); apply Es_q); rfl; rfl; (first | (refine LStep_add rfl rfl rfl rfl ?_; (refine IntWalk.i64_in _ ?_; first | omega | (simp only [cmps] at *; omega))) | (refine LStep_lit (T := Tryd.tab) rfl rfl rfl rfl rfl rfl rfl rfl ?_; (refine Nat.le_of_ble_eq_true ?_; rfl)))) | (with_reducible refine Es_nil ?_) | (with_reducible refine then_n ?_))
  refine AW_forE (S := Nat × ByteArray) (fun s => s.1 ≤ N ∧ 8 * s.2.size + s.1 ≤ N + 8 ∧ Lib.decDigits N = (if s.1 < 10 then [] else Lib.decDigits (s.1 / 10)) ++ s.2.data.toList) (fun s => [(0, .d (.sc (.int .i64 (s.1 : Int)))), (4, .d (.sc (.string s.2)))]) (fun _ => []) (fun s => s.1) (N, strOfNums [48 + (d0 : Int)]) ⟨Nat.le_refl _, by rw [strOf_size1]; omega, ?_⟩ (by (repeat' (first | exact trivial | exact rfl | (refine ⟨Or.inl rfl, ?_⟩) | (refine ⟨Or.inr rfl, ?_⟩) | (refine ⟨Or.inr trivial, ?_⟩) | (refine ⟨rfl, ?_⟩) | (refine ⟨?_, ?_⟩)))) (by (repeat' (first | exact trivial | exact rfl | (refine ⟨Or.inl rfl, ?_⟩) | (refine ⟨Or.inr rfl, ?_⟩) | (refine ⟨Or.inr trivial, ?_⟩) | (refine ⟨rfl, ?_⟩) | (refine ⟨?_, ?_⟩)))) ?_
  · dsimp only
    rw [dig_num]
    by_cases h : N < 10
    · rw [if_pos h, dec_small h, ← hdd0, Nat.mod_eq_of_lt h]; rfl
    · rw [if_neg h, dec_big h, hdd0]
  intro ⟨m, s⟩ ⟨i1, i2, i3⟩
  dsimp only at i1 i2 i3 ⊢
  have q0 : IntKind.i64.wrap ((m : Int).tdiv 10) = ((m / 10 : Nat) : Int) := by
    rw [show (m : Int).tdiv 10 = ((m / 10 : Nat) : Int) from rfl, IntKind.wrap_i64]
    omega
  have r1 : ((m / 10 : Nat) : Int).tmod 10 = ((m / 10 % 10 : Nat) : Int) := rfl
  have hd : m / 10 % 10 < 10 := Nat.mod_lt _ (by omega)
  have hm : m % 10 + 10 * (m / 10) = m := Nat.mod_add_div m 10
  have hm1 : m % 10 < 10 := Nat.mod_lt _ (by omega)
  generalize hqq : m / 10 = q at *
  generalize hdd : q % 10 = d at *
  repeat' (first | ((with_reducible refine gA ?_); (first | refine AW_seq ?_ | refine AW_region ?_ | (refine AW_cond rfl (fun hc => ?_) (fun hc => ?_) <;> try (exfalso; simp only [cmpL] at hc; omega)) | refine AW_block ?_ | refine AW_ret ?_ | refine AW_skip ?_ | refine AW_exit ?_)) | (((with_reducible refine gS ?_); apply Es_q); rfl; rfl; (refine LStep_conv (T := Tryd.tab) rfl rfl rfl rfl rfl ?_; (refine u8_fitD ?_; omega))) | ((with_reducible refine gS ?_); refine Es_s (T := Tryd.tab) rfl rfl rfl rfl ?_) | (((with_reducible refine gS ?_); apply Es_q); rfl; rfl; (first | (refine LStep_remD rfl rfl rfl ?_ r1 rfl; omega) | (refine LStep_quoD rfl rfl rfl ?_ q0 rfl; omega) | (refine LStep_cat rfl rfl rfl rfl ?_; (simp only [strOf_size1]; omega)) | (refine LStep_bytesStrD (T := Tryd.tab) (xs := [48 + (d : Int)]) rfl rfl rfl rfl rfl ?_ rfl; (simp only [List.length_cons, List.length_nil]; omega)))) | (((with_reducible refine gS ?_); apply Es_q); rfl; rfl; (first | (refine LStep_add rfl rfl rfl rfl ?_; (refine IntWalk.i64_in _ ?_; first | omega | (simp only [cmps] at *; omega))) | (refine LStep_lit (T := Tryd.tab) rfl rfl rfl rfl rfl rfl rfl rfl ?_; (refine Nat.le_of_ble_eq_true ?_; rfl)))) | (with_reducible refine Es_nil ?_) | (with_reducible refine then_n ?_) | (with_reducible refine then_e ?_) | (with_reducible refine block_n ?_) | ((with_reducible refine block_e ?_ ?_); rfl) | ((with_reducible refine gR ?_); first | refine ret1 rfl ?_ | refine ret2 rfl rfl ?_ | refine ret0 ?_ | refine end1 rfl ?_ | refine end0 ?_))
  all_goals simp only [cmps] at *
  · rw [if_neg (by omega)] at i3
    refine ⟨(q, strOfNums [48 + (d : Int)] ++ s), ?_, by omega, by (repeat' (first | exact trivial | exact rfl | (refine ⟨Or.inl rfl, ?_⟩) | (refine ⟨Or.inr rfl, ?_⟩) | (refine ⟨Or.inr trivial, ?_⟩) | (refine ⟨rfl, ?_⟩) | (refine ⟨?_, ?_⟩))), by (repeat' (first | exact trivial | exact rfl | (refine ⟨Or.inl rfl, ?_⟩) | (refine ⟨Or.inr rfl, ?_⟩) | (refine ⟨Or.inr trivial, ?_⟩) | (refine ⟨rfl, ?_⟩) | (refine ⟨?_, ?_⟩))), by (repeat' (first | exact trivial | exact rfl | (refine ⟨Or.inl rfl, ?_⟩) | (refine ⟨Or.inr rfl, ?_⟩) | (refine ⟨Or.inr trivial, ?_⟩) | (refine ⟨rfl, ?_⟩) | (refine ⟨?_, ?_⟩))), by (repeat' (first | exact trivial | exact rfl | (refine ⟨Or.inl rfl, ?_⟩) | (refine ⟨Or.inr rfl, ?_⟩) | (refine ⟨Or.inr trivial, ?_⟩) | (refine ⟨rfl, ?_⟩) | (refine ⟨?_, ?_⟩)))⟩; refine ⟨by omega, by rw [ba_size, strOf_size1]; omega, ?_⟩
    dsimp only
    rw [i3, ba_app, dig_num]
    by_cases h : q < 10
    · rw [if_pos h, dec_small h, ← hdd, Nat.mod_eq_of_lt h]; rfl
    · rw [if_neg h, dec_big h, hdd, List.append_assoc]
  · rw [if_pos (by omega)] at i3
    refine congrArg (fun b => AV.d (D.sc (Value.string b))) (ba_ext ?_)
    have hi : Lib.itoa (N : Int) = Lib.decDigits N := by
      unfold Lib.itoa
      rw [if_neg (by omega), Int.toNat_natCast]
    rw [hi, i3]
    rfl
/-- the digits of any number -/
theorem digits_ac (n : Int) (h0 : -9223372036854775808 ≤ n) (h1 : n ≤ 9223372036854775807) : AC Tryd.prog 14 [.d (.sc (.int .i64 n))] [] [] (fun r _ => r = .d (.sc (.string ⟨(Lib.itoa n).toArray⟩))) := by
  by_cases h : n < 0
  · obtain ⟨N, rfl⟩ : ∃ N : Nat, n = -(N : Int) := ⟨n.natAbs, by omega⟩
    exact digitsNeg_ac N (by omega) (by omega)
  · obtain ⟨N, rfl⟩ : ∃ N : Nat, n = (N : Int) := ⟨n.toNat, by omega⟩
    exact digitsPos_ac N (by omega)
end Go.Proofs.YtglkilmflohfoaaDoor
