/- TopMature: its arguments, and the walk. -/
import Derived.Test.YtofdnkgieigncaaGreatMG
import Derived.Test.YtofdnkgieigncaaGreatTX
import Derived.Test.YtofdnkgieigncaaGreatTB
namespace Go.Proofs.YtofdnkgieigncaaGreat
open Go.SL
theorem lstep_eqsT {P : Program} {O : Org} {env : Env} {hp : Hp} {o : Oper} {tt yt : Nat} {x y : Operand} {a b : ByteArray} (ho : o.op = .binOp .eql tt x y yt) (hx : evalA env x = .d (.sc (.string a))) (hy : evalA env y = .d (.sc (.string b))) (hd : dstOk o.dst O.nt = true) (h : a = b) : LStep P O o env hp [] [] (.d (.sc (.bool true))) [] := by
  have hb : binA .eql (evalA env x) (evalA env y) = some (.d (.sc (.bool (eqs a b)))) := by rw [hx, hy]; simp [binA]
  rw [eqs_t.2 h] at hb
  exact LStep_binOp hd ho hb

section
open Go.ChangeShapes Go.WideShapes Go.ChangeAt Go.RowKit
def calS : List CS := [.sl 1 8 [.int .i64], .sl 1 8 [.int .i64]]
theorem argK_cal : argK Tryz.tab 69 = some (true, calS) := by kernel_rfl
theorem argK_u32 : argK Tryz.tab 70 = some (false, u32S) := by kernel_rfl
theorem argK_u16 : argK Tryz.tab 30 = some (false, u16S) := by kernel_rfl
theorem argK_bool : argK Tryz.tab 4 = some (false, boolS) := by kernel_rfl
theorem cal_of {x : AV} (h : OkArg (true, calS) x) : ∃ R H : List Int, x = calA R H ∧ R.length ≤ 140737488351232 ∧ H.length ≤ 140737488351232 := by
  obtain ⟨ds, rfl, h⟩ := h
  unfold calS at h
  obtain ⟨_, _, rfl, h1, h⟩ := h.cons_inv
  obtain ⟨_, _, rfl, h2, h⟩ := h.cons_inv
  obtain rfl := h.nil_inv
  have key : ∀ e, OkCs [.int .i64] e → ∃ n : Int, e = mI n ∧ True := fun e h => by
    obtain ⟨_, _, rfl, h1, h⟩ := h.cons_inv
    obtain rfl := h.nil_inv
    obtain ⟨n, rfl, _, _⟩ := h1.i64_inv
    exact ⟨n, rfl, trivial⟩
  obtain ⟨R, rfl, hR, _⟩ := h1.list (enc := mI) (p := fun _ => True) key
  obtain ⟨H, rfl, hH, _⟩ := h2.list (enc := mI) (p := fun _ => True) key
  exact ⟨R, H, rfl, by omega, by omega⟩
theorem u32_of {x : AV} (h : OkArg (false, u32S) x) : ∃ n : Nat, x = .d (.sc (.int .u32 (n : Int))) ∧ n < 4294967296 := by
  obtain ⟨d, rfl, h⟩ := h
  obtain ⟨n, rfl, hn⟩ := u32c h
  exact ⟨n, rfl, hn⟩
theorem u16_of {x : AV} (h : OkArg (false, u16S) x) : ∃ n : Nat, x = .d (.sc (.int .u16 (n : Int))) ∧ n < 65536 := by
  obtain ⟨d, rfl, h⟩ := h
  obtain ⟨n, rfl, hn⟩ := u16c h
  exact ⟨n, rfl, hn⟩
theorem bool_of {x : AV} (h : OkArg (false, boolS) x) : ∃ b : Bool, x = .d (.sc (.bool b)) := by
  obtain ⟨d, rfl, h⟩ := h
  obtain ⟨n, rfl⟩ := h.bool_inv
  exact ⟨n, rfl⟩
end
theorem disc_ac (s n d days base : Nat) (hf : IntFit s n d days base) : ∃ rv, (rv = .tup [nM 0, nM 0, .d (.sc (.bool false))] ∨ ∃ a b : Nat, rv = .tup [nM a, nM b, .d (.sc (.bool true))] ∧ a + b = s) ∧ AC Tryz.prog 26 [nM s, rtM n d, nM days, nM base] [] [] (fun r _ => r = rv) := by
  refine ⟨_, ?_, discount_ac s n d days base hf⟩
  cases intR s n d days base with
  | none => exact .inl rfl
  | some p =>
    obtain ⟨a, b⟩ := p
    unfold discV
    dsimp only
    by_cases h : nearN a b ≤ s
    · rw [if_pos h]; exact .inr ⟨_, _, rfl, by omega⟩
    · rw [if_neg h]; exact .inl rfl
section
variable (R H : List Int) (sum days F num den : Nat) (base : Bool)
set_option maxRecDepth 20000 in
set_option maxHeartbeats 4000000 in
theorem matNo_ac (hR : R.length ≤ 140737488351232) (hH : H.length ≤ 140737488351232) (h0 : ¬ (R.length ≤ 10 ∧ H.length ≤ 30 ∧ calB R H = true)) : AC Tryz.prog 5 [calA R H, .d (.sc (.int .u32 (sum : Int))), .d (.sc (.int .u16 (days : Int))), .d (.sc (.int .u16 (F : Int))), .d (.sc (.int .u8 (num : Int))), .d (.sc (.int .u8 (den : Int))), .d (.sc (.bool base))] [] [] (fun r _ => r = .d (.sc (.bool true))) := by
  have cc := mayC_ac R H hR hH
  by_cases hb : calB R H = true
  · have h0' : ¬ (R.length ≤ 10 ∧ H.length ≤ 30) := fun ⟨a, b⟩ => h0 ⟨a, b, hb⟩
    unfold calA at *
    refine AC_enter Tryz.func5 rfl Tryz.ntmps5 (rv := [.tmp 14]) rfl rfl (by simp) (fun w X G => ?_)
    repeat' (first | ((with_reducible refine gA ?_); (first | refine AW_seq ?_ | refine AW_region ?_ | refine AW_condT rfl ?_ | (refine AW_cond rfl (fun hc => ?_) (fun hc => ?_) <;> try (exfalso; simp only [cmpL] at hc; omega)) | refine AW_ret ?_ | refine AW_skip ?_)) | ((with_reducible refine gS ?_); refine Es_s (T := Tryz.tab) rfl rfl rfl rfl ?_) | (((with_reducible refine gS ?_); apply Es_q); rfl; (first | rfl | (refine w_ff ?_; assumption)); (first | refine LStep_call (nets_ac) rfl rfl rfl rfl | refine LStep_call (cc) rfl rfl rfl rfl)) | (((with_reducible refine gS ?_); apply Es_q); rfl; (first | rfl | (refine w_ff ?_; assumption)); (first | refine LStep_simp (T := Tryz.tab) rfl rfl | refine LStep_lenM (T := Tryz.tab) rfl rfl rfl rfl | (refine LStep_add rfl rfl rfl rfl ?_; (refine IntWalk.i64_in _ ?_; first | omega | (simp only [cmps] at *; omega))) | (refine LStep_conv (T := Tryz.tab) rfl rfl rfl rfl rfl ?_; (refine IntWalk.i64_in _ ?_; first | omega | (simp only [cmps] at *; omega))) | (refine LStep_pickT rfl rfl ?_ rfl rfl; assumption) | (refine LStep_pickF rfl rfl ?_ rfl rfl; assumption) | refine LStep_buildN (T := Tryz.tab) rfl rfl rfl rfl rfl rfl rfl)) | (refine Es_skip rfl ?_ rfl ?_; (first | rfl | (refine w_tf ?_; assumption) | (refine w_ft ?_; assumption))) | (((with_reducible refine gS ?_); apply Es_xs); rfl; rfl; refine LStep_boxN rfl rfl rfl rfl rfl rfl; rfl) | (refine Es_split rfl ?_ (fun _ => ?_) (fun _ => ?_); ((fail_if_success (refine und_t ?_; assumption)); (fail_if_success (refine und_f ?_; assumption)); exact trivial)) | (with_reducible refine Es_nil ?_) | (with_reducible refine then_n ?_) | (with_reducible refine then_r ?_) | ((with_reducible refine gR ?_); first | refine ret1 rfl ?_ | refine ret2 rfl rfl ?_ | refine ret0 ?_ | refine end1 rfl ?_ | refine end0 ?_))
    all_goals (try simp only [cmps] at *)
    all_goals first
      | rfl
      | (exfalso; omega)
      | trace_state
  · have hb : calB R H = false := by simpa using hb
    rw [hb] at cc
    unfold calA at *
    refine AC_enter Tryz.func5 rfl Tryz.ntmps5 (rv := [.tmp 14]) rfl rfl (by simp) (fun w X G => ?_)
    repeat' (first | ((with_reducible refine gA ?_); (first | refine AW_seq ?_ | refine AW_region ?_ | refine AW_condT rfl ?_ | refine AW_ret ?_)) | ((with_reducible refine gS ?_); refine Es_s (T := Tryz.tab) rfl rfl rfl rfl ?_) | (((with_reducible refine gS ?_); apply Es_q); rfl; (first | rfl | (refine w_ff ?_; assumption)); (first | refine LStep_call (nets_ac) rfl rfl rfl rfl | refine LStep_call (cc) rfl rfl rfl rfl)) | (((with_reducible refine gS ?_); apply Es_q); rfl; (first | rfl | (refine w_ff ?_; assumption)); (first | refine LStep_simp (T := Tryz.tab) rfl rfl | refine LStep_lenM (T := Tryz.tab) rfl rfl rfl rfl | (refine LStep_pickT rfl rfl ?_ rfl rfl; assumption) | (refine LStep_pickF rfl rfl ?_ rfl rfl; assumption))) | (refine Es_skip rfl ?_ rfl ?_; (first | rfl | (refine w_tf ?_; assumption) | (refine w_ft ?_; assumption))) | (((with_reducible refine gS ?_); apply Es_xs); rfl; rfl; refine LStep_boxN rfl rfl rfl rfl rfl rfl; rfl) | (refine Es_split rfl ?_ (fun _ => ?_) (fun _ => ?_); ((fail_if_success (refine und_t ?_; assumption)); (fail_if_success (refine und_f ?_; assumption)); exact trivial)) | (with_reducible refine Es_nil ?_) | (with_reducible refine then_n ?_) | (with_reducible refine then_r ?_) | ((with_reducible refine gR ?_); first | refine ret1 rfl ?_ | refine ret2 rfl rfl ?_ | refine ret0 ?_ | refine end1 rfl ?_ | refine end0 ?_))
    all_goals (try simp only [cmps] at *)
    all_goals first
      | rfl
      | (exfalso; omega)
      | trace_state
structure MatF (D s d : Nat) : Prop where
  h1 : sum < 4294967296
  h2 : F < 65536
  h3 : num < 256
  h4 : den < 256
  e1 : ((s : Nat) : Int) = 1 + (sum : Int)
  e2 : ((D : Nat) : Int) = 1 + ((days % 1000 : Nat) : Int)
  e3 : ((d : Nat) : Int) = 1 + (den : Int)
set_option maxRecDepth 20000 in
set_option maxHeartbeats 8000000 in
theorem matLate_ac (D s d : Nat) (hf : MatF sum days F num den D s d) (hdy : days < 65536) (hR : R.length ≤ 10) (hH : H.length ≤ 30) (hb : calB R H = true) (hx : nextD R H (F + D) = none) : AC Tryz.prog 5 [calA R H, .d (.sc (.int .u32 (sum : Int))), .d (.sc (.int .u16 (days : Int))), .d (.sc (.int .u16 (F : Int))), .d (.sc (.int .u8 (num : Int))), .d (.sc (.int .u8 (den : Int))), .d (.sc (.bool base))] [] [] (fun r _ => r = .d (.sc (.bool true))) := by
  obtain ⟨h1, h2, h3, h4, e1, e2, e3⟩ := hf
  have hdf : DFit s D F := ⟨by omega, by omega, by omega, by have := Nat.mod_lt days (show 1000 > 0 by omega); omega, by omega⟩
  have cc := mayC_ac R H (by omega) (by omega)
  rw [hb] at cc
  have cd := due_ac R H s D F hdf hb
  rw [hx] at cd
  have cn := dnew_ac s D F hdf
  have er : ((days : Nat) : Int).tmod 1000 = ((days % 1000 : Nat) : Int) := rfl
  unfold calA drL biL dueR stM nM at *
  simp only [e1, e2] at cd cn
  refine AC_enter Tryz.func5 rfl Tryz.ntmps5 (rv := [.tmp 14]) rfl rfl (by simp) (fun w X G => ?_)
  repeat' (first | ((with_reducible refine gA ?_); (first | refine AW_seq ?_ | refine AW_region ?_ | refine AW_condT rfl ?_ | refine AW_condF rfl ?_ | refine AW_ret ?_ | refine AW_skip ?_)) | (((with_reducible refine gS ?_); apply Es_q); rfl; (first | rfl | (refine w_ff ?_; assumption)); refine LStep_neqF rfl rfl rfl rfl rfl) | ((with_reducible refine gS ?_); refine Es_s (T := Tryz.tab) rfl rfl rfl rfl ?_) | (((with_reducible refine gS ?_); apply Es_q); rfl; (first | rfl | (refine w_ff ?_; assumption)); (first | (refine LStep_remM rfl rfl rfl ?_ er rfl; omega) | refine LStep_call (nets_ac) rfl rfl rfl rfl | refine LStep_call (cc) rfl rfl rfl rfl | refine LStep_call (cd) rfl rfl rfl rfl | refine LStep_eqNilP (T := Tryz.tab) rfl rfl rfl rfl)) | (((with_reducible refine gS ?_); apply Es_xg); rfl; (first | rfl | (refine w_ff ?_; assumption)); refine LStep_callHN [] [(14, 4000), (10, 4001)] cn rfl rfl trivial rfl trivial rfl rfl; rfl) | (((with_reducible refine gS ?_); apply Es_q); rfl; (first | rfl | (refine w_ff ?_; assumption)); (first | refine LStep_simp (T := Tryz.tab) rfl rfl | refine LStep_lenM (T := Tryz.tab) rfl rfl rfl rfl | (refine LStep_add rfl rfl rfl rfl ?_; (refine IntWalk.i64_in _ ?_; first | omega | (simp only [cmps] at *; omega))) | (refine LStep_conv (T := Tryz.tab) rfl rfl rfl rfl rfl ?_; (refine IntWalk.i64_in _ ?_; first | omega | (simp only [cmps] at *; omega))) | (refine LStep_pickT rfl rfl ?_ rfl rfl; assumption) | (refine LStep_pickF rfl rfl ?_ rfl rfl; assumption) | refine LStep_buildN (T := Tryz.tab) rfl rfl rfl rfl rfl rfl rfl)) | (refine Es_skip rfl ?_ rfl ?_; (first | rfl | (refine w_tf ?_; assumption) | (refine w_ft ?_; assumption))) | (((with_reducible refine gS ?_); apply Es_xs); rfl; rfl; (first | refine LStep_boxN rfl rfl rfl rfl rfl rfl | refine LStep_allocN (T := Tryz.tab) rfl rfl rfl rfl rfl rfl); rfl) | (((with_reducible refine gS ?_); apply Es_xn); rfl; rfl; (refine LStep_storeN (T := Tryz.tab) rfl rfl rfl rfl rfl rfl rfl ?_ rfl; (refine Nat.le_of_ble_eq_true ?_; rfl)); rfl) | (refine Es_split rfl ?_ (fun _ => ?_) (fun _ => ?_); ((fail_if_success (refine und_t ?_; assumption)); (fail_if_success (refine und_f ?_; assumption)); exact trivial)) | (with_reducible refine Es_nil ?_) | (with_reducible refine then_n ?_) | (with_reducible refine then_r ?_) | ((with_reducible refine gR ?_); first | refine ret1 rfl ?_ | refine ret2 rfl rfl ?_ | refine ret0 ?_ | refine end1 rfl ?_ | refine end0 ?_))
  all_goals (try simp only [cmps] at *)
  all_goals first
    | rfl
    | (exfalso; omega)
    | trace_state
end
end Go.Proofs.YtofdnkgieigncaaGreat
