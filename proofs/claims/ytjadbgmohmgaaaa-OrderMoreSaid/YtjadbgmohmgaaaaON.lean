/- OrderMore: the walk. -/
import Derived.Test.YtjadbgmohmgaaaaOM
import Derived.Test.YtjadbgmohmgaaaaTa
namespace Go.Proofs.Ytjadbgmohmgaaaa
open Go.SL

theorem lstep_catO {P : Program} {O : Org} {env : Env} {h : Hp} {o : Oper} {t yt : Nat} {x y : Operand} {a b : ByteArray} (hd : dstOk o.dst O.nt = true) (ho : o.op = .binOp .add t x y yt) (hx : evalA env x = .d (.sc (.string a))) (hy : evalA env y = .d (.sc (.string b))) (hl : a.size + b.size ≤ 9223372036854775807) :
    LStep P O o env h [] [] (.d (.sc (.string (a ++ b)))) [] := by
  refine .quiet hd (fun env' h' he _ ac w G r => ⟨.string (a ++ b), ?_, .d _ _ (.sc _ rfl)⟩)
  have h1 := evalA_rep r.env x
  have h2 := evalA_rep r.env y
  rw [he x (by simp [ho, Op.operands]), hx] at h1
  rw [he y (by simp [ho, Op.operands]), hy] at h2
  have hl' : (a.size : Int) + (b.size : Int) ≤ 9223372036854775807 := by omega
  simp [execOp, ho, h1.sc_inv, h2.sc_inv, eqGuard, binOp, Op.stringOp, hl']
theorem newB_one {id : Nat} {env : Env} {h : Hp} (h1 : freshE id env = true) (h2 : freshH id h = true) : newB [id] env h = true := by
  unfold newB
  simp [h1, h2]
theorem freshH_cons {id t : Nat} {o : AObj} {r : Hp} (h1 : freshO id o = true) (h2 : Nat.beq id t = false) (h3 : freshH id r = true) : freshH id ((t, some o) :: r) = true := by
  unfold freshH
  simp [h1, h2, h3]
theorem freshLL_toV (id : Nat) : ∀ es : List (List D), fresh.freshLL id (toV es) = true
  | [] => rfl
  | e :: es => by
    have hd : ∀ e : List D, fresh.freshL id (e.map AV.d) = true := fun e => by
      induction e with
      | nil => rfl
      | cons a e ih =>
        show (fresh id (.d a) && fresh.freshL id (e.map AV.d)) = true
        rw [ih]; rfl
    show (fresh.freshL id (e.map AV.d) && fresh.freshLL id (toV es)) = true
    rw [hd, freshLL_toV id es]; rfl
theorem freshLL_app (id : Nat) : ∀ a b : List (List AV), fresh.freshLL id (a ++ b) = (fresh.freshLL id a && fresh.freshLL id b)
  | [], b => rfl
  | e :: a, b => by
    show (fresh.freshL id e && fresh.freshLL id (a ++ b)) = (fresh.freshL id e && fresh.freshLL id a && fresh.freshLL id b)
    rw [freshLL_app id a b, Bool.and_assoc]
theorem fresh_toV {e sz : Nat} (id : Nat) (es : List (List D)) : freshO id (.arrV e sz (toV es)) = true := freshLL_toV id es
def vA (parts : List (List Int)) (a n k : Nat) : List (List AV) := toV ((parts.take a).map pE) ++ [[.own 5000 n]] ++ toV (((parts.take k).drop (a + 1)).map pE)
theorem fresh_vA {e sz n k : Nat} (parts : List (List Int)) (a : Nat) : freshO 96 (.arrV e sz (vA parts a n k)) = true := by
  show fresh.freshLL 96 (vA parts a n k) = true
  unfold vA
  rw [freshLL_app, freshLL_app, freshLL_toV, freshLL_toV]
  rfl
theorem vA_at {parts : List (List Int)} {a n k : Nat} (h : a < parts.length) : (vA parts a n k)[a]? = some [.own 5000 n] := by
  unfold vA
  rw [List.append_assoc, List.getElem?_append_right (by rw [toV_len, List.length_map, List.length_take]; omega), toV_len, List.length_map, List.length_take, Nat.min_eq_left (by omega), Nat.sub_self]
  rfl
theorem vA_len {parts : List (List Int)} {a n k : Nat} (h : a < k) (hk : k ≤ parts.length) : (vA parts a n k).length = k := by
  unfold vA
  simp only [List.length_append, toV_len, List.length_map, List.length_take, List.length_drop, List.length_cons, List.length_nil]
  omega
theorem vA_own {parts : List (List Int)} {a n : Nat} : toV ((parts.take a).map pE) ++ [[AV.own 5000 n]] = vA parts a n (a + 1) := by
  unfold vA
  have : (parts.take (a + 1)).drop (a + 1) = [] := List.drop_eq_nil_of_le (by rw [List.length_take]; omega)
  rw [this]
  simp [toV]
theorem vA_step {parts : List (List Int)} {a n k : Nat} {r : List Int} (hk : a < k) (hr : parts[k]? = some r) : vA parts a n k ++ toV [pE r] = vA parts a n (k + 1) := by
  unfold vA
  have hl : k < parts.length := (List.getElem?_eq_some_iff.1 hr).1
  rw [List.append_assoc, ← toV_app, take_at hr, List.drop_append_of_le_length (by rw [List.length_take]; omega), List.map_append]
  rfl
theorem toV_step {parts : List (List Int)} {k : Nat} {r : List Int} (hr : parts[k]? = some r) : toV ((parts.take k).map pE) ++ toV [pE r] = toV ((parts.take (k + 1)).map pE) := by
  rw [← toV_app, take_at hr, List.map_append]
  rfl
theorem vA_done {parts : List (List Int)} {a n : Nat} {p : List Int} {j : Nat} {y : Int} (h : a < parts.length) : (vA parts a n parts.length).set a ([AV.own 5000 n].set 0 (.d (.sl 1 ((p.map iE).set j [D.sc (.int .i64 y)])))) = toV ((parts.set a (p.set j y)).map pE) := by
  have e : parts.set a (p.set j y) = parts.take a ++ p.set j y :: parts.drop (a + 1) := by rw [List.set_eq_take_append_cons_drop, if_pos h]
  have e2 : [D.sl 1 ((p.map iE).set j [D.sc (.int .i64 y)])] = pE (p.set j y) := by rw [pE, List.map_set]; rfl
  unfold vA
  rw [e, List.take_length, List.append_assoc, List.set_append_right _ _ (by rw [toV_len, List.length_map, List.length_take]; omega), toV_len, List.length_map, List.length_take, Nat.min_eq_left (by omega), Nat.sub_self, List.map_append, List.map_cons, toV_app, ← e2]
  rfl
set_option maxRecDepth 20000 in
set_option maxHeartbeats 4000000 in
theorem orderMoreNo_ac (o : Ord) (dates : List Int) (parts : List (List Int)) (n m : Int) (fo : o.Fit) (hf : CutFit o dates parts) (hn1 : -9223372036854775808 ≤ n) (hn2 : n ≤ 9223372036854775807) (hm1 : -9223372036854775808 ≤ m) (hm2 : m ≤ 9223372036854775807)
    (h0 : cutCode o dates parts ≠ 0 ∨ n < 0 ∨ (parts.length : Int) ≤ n ∨ m < 0 ∨ (o.lines.length : Int) ≤ m) :
    AC Try.prog 3 [.agg o.cs, .d (.sl 1 (dates.map iE)), .d (.sl 1 (parts.map pE)), .d (.sc (.int .i64 n)), .d (.sc (.int .i64 m))] [] [] (fun r _ => r = .d (.sc (.bool true))) := by
  have h1 := hf.h1
  have h2 := hf.h2
  by_cases hc : cutCode o dates parts = 0
  · refine AC_enter Try.func3 rfl Try.ntmps3 (rv := [.tmp 10]) rfl rfl (by simp) (fun w X G => ?_)
    repeat' (first | ((with_reducible refine gA ?_); (first | refine AW_seq ?_ | refine AW_region ?_ | refine AW_condT rfl ?_ | refine AW_condF rfl ?_ | (refine AW_cond rfl (fun hc => ?_) (fun hc => ?_) <;> try (exfalso; simp only [cmpL] at hc; omega)) | refine AW_ret ?_ | refine AW_skip ?_)) | ((with_reducible refine gS ?_); refine Es_s (T := Try.tab) rfl rfl rfl rfl ?_) | (((with_reducible refine gS ?_); apply Es_q); rfl; (first | rfl | (refine w_ff ?_; assumption)); (first | refine LStep_call (awake_ac) rfl rfl rfl rfl | refine LStep_call (few0_ac _ fo) rfl rfl rfl rfl)) | (((with_reducible refine gS ?_); apply Es_q); rfl; (first | rfl | (refine w_ff ?_; assumption)); (first | refine LStep_simp (T := Try.tab) rfl rfl | refine LStep_lenM (T := Try.tab) rfl rfl rfl rfl | (refine LStep_pickT rfl rfl ?_ rfl rfl; assumption) | (refine LStep_pickF rfl rfl ?_ rfl rfl; assumption))) | (refine Es_skip rfl ?_ rfl ?_; (first | rfl | (refine w_tf ?_; assumption) | (refine w_ft ?_; assumption))) | (((with_reducible refine gS ?_); apply Es_xs); rfl; rfl; refine LStep_boxN rfl rfl rfl rfl rfl rfl; rfl) | (refine Es_split rfl ?_ (fun _ => ?_) (fun _ => ?_); ((fail_if_success (refine und_t ?_; assumption)); (fail_if_success (refine und_f ?_; assumption)); exact trivial)) | (with_reducible refine Es_nil ?_) | (with_reducible refine then_n ?_) | (with_reducible refine then_r ?_) | ((with_reducible refine gR ?_); first | refine ret1 rfl ?_ | refine ret2 rfl rfl ?_ | refine ret0 ?_ | refine end1 rfl ?_ | refine end0 ?_))
    all_goals simp only [cmps] at *
    all_goals first
      | rfl
      | (exfalso; omega)
      | skip
  · have ca := cut_ac o dates parts hf
    rw [cutR_no hc] at ca
    refine AC_enter Try.func3 rfl Try.ntmps3 (rv := [.tmp 10]) rfl rfl (by simp) (fun w X G => ?_)
    repeat' (first | ((with_reducible refine gA ?_); (first | refine AW_seq ?_ | refine AW_region ?_ | refine AW_regionD Try.mixed ?_ | refine AW_condT rfl ?_ | refine AW_condF rfl ?_ | (refine AW_cond rfl (fun hc => ?_) (fun hc => ?_) <;> try (exfalso; simp only [cmpL] at hc; omega)) | refine AW_ret ?_ | refine AW_skip ?_)) | (first | ((with_reducible refine gS ?_); refine Es_s (T := Try.tab) rfl rfl rfl rfl ?_) | ((with_reducible refine gD ?_); refine Ed_s (T := Try.tab) rfl rfl rfl rfl ?_)) | ((first | ((with_reducible refine gS ?_); apply Es_q) | ((with_reducible refine gD ?_); apply Ed_q)); rfl; (first | rfl | (refine w_ff ?_; assumption)); (first | refine LStep_call (awake_ac) rfl rfl rfl rfl | refine LStep_call (few0_ac _ fo) rfl rfl rfl rfl | refine LStep_call (ca) rfl rfl rfl rfl)) | ((first | ((with_reducible refine gS ?_); apply Es_q) | ((with_reducible refine gD ?_); apply Ed_q)); rfl; (first | rfl | (refine w_ff ?_; assumption)); (first | refine LStep_simp (T := Try.tab) rfl rfl | refine LStep_lenM (T := Try.tab) rfl rfl rfl rfl | (refine LStep_pickT rfl rfl ?_ rfl rfl; assumption) | (refine LStep_pickF rfl rfl ?_ rfl rfl; assumption))) | ((first | refine Es_skip rfl ?_ rfl ?_ | refine Ed_skip rfl ?_ rfl ?_); (first | rfl | (refine w_tf ?_; assumption) | (refine w_ft ?_; assumption))) | ((first | ((with_reducible refine gS ?_); apply Es_xs) | ((with_reducible refine gD ?_); apply Ed_xs)); rfl; (first | rfl | (refine w_ff ?_; assumption)); refine LStep_boxN rfl rfl rfl rfl rfl rfl; rfl) | ((first | refine Es_split rfl ?_ (fun _ => ?_) (fun _ => ?_) | refine Ed_split rfl ?_ (fun _ => ?_) (fun _ => ?_)); ((fail_if_success (refine und_t ?_; assumption)); (fail_if_success (refine und_f ?_; assumption)); exact trivial)) | (with_reducible refine Es_nil ?_) | ((with_reducible refine Ed_nil ?_ ?_); kernel_rfl) | (with_reducible refine then_n ?_) | (with_reducible refine then_r ?_) | ((with_reducible refine gR ?_); first | refine ret1 rfl ?_ | refine ret2 rfl rfl ?_ | refine ret0 ?_ | refine end1 rfl ?_ | refine end0 ?_))
    all_goals simp only [cmps] at *
    all_goals first
      | rfl
      | (exfalso; omega)
      | (refine congrArg (fun b => AV.d (D.sc (Value.bool b))) ?_; rw [not_t, eqb_f]; assumption)
set_option maxRecDepth 20000 in
set_option maxHeartbeats 8000000 in
theorem orderMoreYes_ac (o : Ord) (dates : List Int) (parts : List (List Int)) (a j : Nat) (fo : o.Fit) (hf : CutFit o dates parts) (ha : a < parts.length) (hj : j < o.lines.length) (h0 : cutCode o dates parts = 0) :
    AC Try.prog 3 [.agg o.cs, .d (.sl 1 (dates.map iE)), .d (.sl 1 (parts.map pE)), .d (.sc (.int .i64 (a : Nat))), .d (.sc (.int .i64 (j : Nat)))] [] [] (fun r _ => r = .d (.sc (.bool true))) := by
  have h1 := hf.h1
  have h2 := hf.h2
  have h3 := hf.h3
  have hnum := fo.n1
  have ca := cut_ac o dates parts hf
  rw [cutR_yes h0] at ca
  obtain ⟨e1, e2, _⟩ := code_of h0
  obtain ⟨e3, _, hp64, _, e6⟩ := pMay_of e2
  have hl64 := (may_lines e1).1
  have hp : parts[a]? = some parts[a] := List.getElem?_eq_getElem ha
  generalize parts[a] = p at hp
  have hpn := (e6 p (List.mem_of_getElem? hp)).1
  obtain ⟨v, hv, _⟩ := drop_at (show j < p.length by omega)
  obtain ⟨x, hx, _⟩ := drop_at hj
  have hvb := whole_le h0 (List.mem_of_getElem? hp) hv
  have hcl : (cutAll o dates parts 0).length = parts.length := (cutAll_length o _ _ _ e3).trans e3.symm
  have hcs := (cutAll_len o dates parts 0).2
  have hxm := List.mem_of_getElem? hx
  have cb := cut_ac o dates (parts.set a (p.set j (v + 1))) ⟨h1, by rw [List.length_set]; exact h2, h3, fun r hr => by
    rcases List.mem_or_eq_of_mem_set hr with hr | rfl
    · exact hf.h4 r hr
    · rw [List.length_set, hpn]; exact h3⟩
  have hm3 := more_code h0 hp hv
  rw [cutR_no (by rw [hm3]; decide), hm3] at cb
  have hlo := left_more h0 hxm
  generalize cutAll o dates parts 0 = CS at ca hcl hlo hcs
  have cl := left_ac o (CS ++ [⟨o.number, 0, 0, [⟨x.good, 1⟩]⟩]) ⟨by rw [List.length_append, hcl, List.length_singleton]; omega, fun c hc => by
    rcases List.mem_append.1 hc with hc | hc
    · exact Nat.le_trans (hcs c hc) h3
    · rw [List.mem_singleton.1 hc]; simp⟩ h3 (by
    have := sentB (l := CS) (fun c hc => Nat.le_trans (hcs c hc) hl64)
    rw [sentL_snoc, List.length_append, List.length_singleton]
    omega)
  rw [hlo, List.map_append] at cl
  have cl2 := left_ac o [otherC o x.good] ⟨by simp, fun c hc => by rw [List.mem_singleton.1 hc]; simp [otherC]⟩ h3 (by simp [sentL, otherC])
  rw [left_other] at cl2
  have cv := value_ac o (otherC o x.good) (by simp [otherC]) h3
  rw [val_other] at cv
  clear h0 e1 e2 hm3 hlo
  refine AC_enter Try.func3 rfl Try.ntmps3 (rv := [.tmp 10]) rfl rfl (by simp) (fun w X G => ?_)
  repeat' (first | ((with_reducible refine gA ?_); (first | refine AW_seq ?_ | refine AW_region ?_ | refine AW_regionD Try.mixed ?_ | refine AW_condT rfl ?_ | refine AW_condF rfl ?_ | (refine AW_cond rfl (fun hc => ?_) (fun hc => ?_) <;> try (exfalso; simp only [cmpL] at hc; omega)) | refine AW_block ?_ | refine AW_ret ?_ | refine AW_skip ?_)) | ((first | ((with_reducible refine gS ?_); apply Es_q) | ((with_reducible refine gD ?_); apply Ed_q)); rfl; (first | rfl | (refine w_ff ?_; assumption)); refine LStep_neqF rfl rfl rfl rfl rfl) | (first | ((with_reducible refine gS ?_); refine Es_s (T := Try.tab) rfl rfl rfl rfl ?_) | ((with_reducible refine gD ?_); refine Ed_s (T := Try.tab) rfl rfl rfl rfl ?_)) | ((first | ((with_reducible refine gS ?_); apply Es_q) | ((with_reducible refine gD ?_); apply Ed_q)); rfl; (first | rfl | (refine w_ff ?_; assumption)); (first | refine LStep_call (awake_ac) rfl rfl rfl rfl | refine LStep_call (few0_ac _ fo) rfl rfl rfl rfl | refine LStep_call (ca) rfl rfl rfl rfl)) | ((first | ((with_reducible refine gS ?_); apply Es_q) | ((with_reducible refine gD ?_); apply Ed_q)); rfl; (first | rfl | (refine w_ff ?_; assumption)); (first | refine LStep_simp (T := Try.tab) rfl rfl | refine LStep_lenM (T := Try.tab) rfl rfl rfl rfl | (refine LStep_pickT rfl rfl ?_ rfl rfl; assumption) | (refine LStep_pickF rfl rfl ?_ rfl rfl; assumption) | (refine LStep_indexM (T := Try.tab) (c := ?_) rfl rfl rfl rfl rfl rfl ?_; rotate_left; assumption))) | ((first | refine Es_skip rfl ?_ rfl ?_ | refine Ed_skip rfl ?_ rfl ?_); (first | rfl | (refine w_tf ?_; assumption) | (refine w_ft ?_; assumption))) | ((first | ((with_reducible refine gS ?_); apply Es_xs) | ((with_reducible refine gD ?_); apply Ed_xs)); rfl; rfl; refine LStep_boxN rfl rfl rfl rfl rfl rfl; rfl) | ((first | refine Es_split rfl ?_ (fun _ => ?_) (fun _ => ?_) | refine Ed_split rfl ?_ (fun _ => ?_) (fun _ => ?_)); ((fail_if_success (refine und_t ?_; assumption)); (fail_if_success (refine und_f ?_; assumption)); exact trivial)) | (with_reducible refine Es_nil ?_) | ((with_reducible refine Ed_nil ?_ ?_); kernel_rfl) | (with_reducible refine then_n ?_) | (with_reducible refine then_r ?_) | ((with_reducible refine gR ?_); first | refine ret1 rfl ?_ | refine ret2 rfl rfl ?_ | refine ret0 ?_ | refine end1 rfl ?_ | refine end0 ?_))
  all_goals simp only [cmps] at *
  all_goals first
    | rfl
    | (exfalso; omega)
    | skip
  clear ca
  refine AW_openNil (t := 13) (id := 2000) (e := 25) (sz := 1) rfl rfl rfl rfl ?_
  refine AW_toV 2000 rfl ?_
  repeat' (first | ((with_reducible refine gA ?_); (first | refine AW_seq ?_ | refine AW_region ?_ | refine AW_regionD Try.mixed ?_ | refine AW_condT rfl ?_ | refine AW_condF rfl ?_ | (refine AW_condY rfl ?_ ?_; assumption) | (refine AW_condN rfl ?_ ?_; assumption) | (refine AW_cond rfl (fun hc => ?_) (fun hc => ?_) <;> try (exfalso; simp only [cmpL] at hc; omega)) | refine AW_block ?_ | refine AW_ret ?_ | refine AW_skip ?_ | refine AW_exit ?_)) | (first | ((with_reducible refine gS ?_); refine Es_s (T := Try.tab) rfl rfl rfl rfl ?_) | ((with_reducible refine gD ?_); refine Ed_s (T := Try.tab) rfl rfl rfl rfl ?_)) | ((first | ((with_reducible refine gS ?_); apply Es_q) | ((with_reducible refine gD ?_); apply Ed_q)); rfl; (first | rfl | (refine w_tt ?_; assumption) | (refine w_ff ?_; assumption)); (first | refine LStep_simp (T := Try.tab) rfl rfl | refine LStep_lenM (T := Try.tab) rfl rfl rfl rfl | (refine LStep_add rfl rfl rfl rfl ?_; (refine IntWalk.i64_in _ ?_; first | omega | (simp only [cmps] at *; omega))) | (refine LStep_sub rfl rfl rfl rfl ?_; (refine IntWalk.i64_in _ ?_; first | omega | (simp only [cmps] at *; omega))) | (refine LStep_mul rfl rfl rfl rfl ?_; (refine IntWalk.i64_in _ ?_; first | omega | (simp only [cmps] at *; omega))) | (refine LStep_conv (T := Try.tab) rfl rfl rfl rfl rfl ?_; (refine IntWalk.i64_in _ ?_; first | omega | (simp only [cmps] at *; omega))) | refine LStep_wrap (T := Try.tab) rfl rfl | (refine LStep_pickT rfl rfl ?_ rfl rfl; assumption) | (refine LStep_pickF rfl rfl ?_ rfl rfl; assumption) | (refine LStep_indexM (T := Try.tab) (c := ?_) rfl rfl rfl rfl rfl rfl ?_; rotate_left; assumption) | (refine LStep_index (T := Try.tab) (c := ?_) rfl rfl rfl rfl rfl rfl ?_ ?_; rotate_left; omega; (first | assumption | rfl)) | (refine LStep_indexA (T := Try.tab) (c := ?_) rfl rfl rfl rfl rfl rfl ?_ ?_; rotate_left; omega; (first | assumption | rfl)) | (refine LStep_byteM (T := Try.tab) (c := ?_) rfl rfl rfl rfl rfl ?_; rotate_left; assumption) | (refine LStep_byte (T := Try.tab) (c := ?_) rfl rfl rfl rfl rfl ?_ ?_; rotate_left; omega; (first | assumption | rfl)) | (refine LStep_partM (T := Try.tab) rfl rfl rfl rfl rfl rfl rfl ?_ ?_ ?_; omega; (first | omega | (simp only [List.length_map]; omega)); (first | omega | (simp only [List.length_map]; omega))) | (refine LStep_lit (T := Try.tab) rfl rfl rfl rfl rfl rfl rfl rfl ?_; (refine Nat.le_of_ble_eq_true ?_; rfl)) | (refine LStep_litA (T := Try.tab) rfl rfl rfl rfl rfl rfl rfl ?_; (refine Nat.le_of_ble_eq_true ?_; rfl)) | refine LStep_buildN (T := Try.tab) rfl rfl rfl rfl rfl rfl rfl)) | ((first | refine Es_skip rfl ?_ rfl ?_ | refine Ed_skip rfl ?_ rfl ?_); (first | rfl | (refine w_tf ?_; assumption) | (refine w_ft ?_; assumption))) | ((first | ((with_reducible refine gS ?_); apply Es_xs) | ((with_reducible refine gD ?_); apply Ed_xs)); rfl; (first | rfl | (refine w_tt ?_; assumption) | (refine w_ff ?_; assumption)); (first | refine LStep_boxN rfl rfl rfl rfl rfl rfl | refine LStep_box rfl rfl rfl rfl rfl | refine LStep_allocN (T := Try.tab) rfl rfl rfl rfl rfl rfl | refine LStep_makeMap (kt := 0) (et := 0) rfl rfl rfl rfl | refine LStep_makeMapN (T := Try.tab) rfl rfl rfl rfl rfl rfl); rfl) | ((first | ((with_reducible refine gS ?_); apply Es_xn) | ((with_reducible refine gD ?_); apply Ed_xn)); rfl; (first | rfl | (refine w_tt ?_; assumption) | (refine w_ff ?_; assumption)); (first | (refine LStep_storeN (T := Try.tab) rfl rfl rfl rfl rfl rfl rfl ?_ rfl; (refine Nat.le_of_ble_eq_true ?_; rfl)) | (refine LStep_store (T := Try.tab) rfl rfl rfl rfl rfl rfl rfl ?_; (refine Nat.le_of_ble_eq_true ?_; rfl))); rfl) | ((first | refine Es_split rfl ?_ (fun _ => ?_) (fun _ => ?_) | refine Ed_split rfl ?_ (fun _ => ?_) (fun _ => ?_)); ((fail_if_success (refine und_t ?_; assumption)); (fail_if_success (refine und_f ?_; assumption)); exact trivial)) | (with_reducible refine Es_nil ?_) | ((with_reducible refine Ed_nil ?_ ?_); kernel_rfl) | (with_reducible refine then_n ?_) | (with_reducible refine then_r ?_) | (with_reducible refine then_e ?_) | (with_reducible refine block_n ?_) | (with_reducible refine block_r ?_) | ((with_reducible refine block_e ?_ ?_); rfl) | ((with_reducible refine block_x ?_ ?_); rfl) | ((with_reducible refine gR ?_); first | refine ret1 rfl ?_ | refine ret2 rfl rfl ?_ | refine ret0 ?_ | refine end1 rfl ?_ | refine end0 ?_) | ((with_reducible refine gC ?_); first | refine retC1 rfl ?_ | refine endC1 rfl ?_) | ((with_reducible refine gRG ?_); first | refine retGa rfl ?_ | refine retGb rfl ?_ | refine retGc rfl ?_ | refine retG1 rfl rfl ?_ | refine endG1 rfl rfl ?_))
  refine AW_forE (S := Sum Nat Nat) (fun s => match s with | .inl k => k ≤ a | .inr k => a < k ∧ k ≤ parts.length)
    (fun s => match s with | .inl k => [(14, .d (.sc (.int .i64 (k : Nat)))), (13, .own 2000 (toV ((parts.take k).map pE)).length)] | .inr k => [(14, .d (.sc (.int .i64 (k : Nat)))), (13, .own 2000 (vA parts a (p.map iE).length k).length)])
    (fun s => match s with | .inl k => [(2000, some (.arrV 25 1 (toV ((parts.take k).map pE))))] | .inr k => [(2000, some (.arrV 25 1 (vA parts a (p.map iE).length k))), (5000, some (.arr 3 1 (p.map iE)))])
    (fun s => match s with | .inl k => parts.length - k | .inr k => parts.length - k) (.inl 0) (Nat.zero_le _) (by (repeat' (first | exact trivial | exact rfl | (refine ⟨Or.inl rfl, ?_⟩) | (refine ⟨Or.inr rfl, ?_⟩) | (refine ⟨Or.inr trivial, ?_⟩) | (refine ⟨rfl, ?_⟩) | (refine ⟨?_, ?_⟩)))) (by (repeat' (first | exact trivial | exact rfl | (refine ⟨Or.inl rfl, ?_⟩) | (refine ⟨Or.inr rfl, ?_⟩) | (refine ⟨Or.inr trivial, ?_⟩) | (refine ⟨rfl, ?_⟩) | (refine ⟨?_, ?_⟩)))) ?_
  intro s hs
  rcases s with k | k
  · have hka : k ≤ a := hs
    have hk : k < parts.length := by omega
    have hr : parts[k]? = some parts[k] := List.getElem?_eq_getElem hk
    generalize parts[k] = r at hr
    have hst := toV_step hr
    have hVl : (toV ((parts.take k).map pE)).length = k := by rw [toV_len, List.length_map, List.length_take]; omega
    have hrl := (e6 r (List.mem_of_getElem? hr)).1
    by_cases he : k = a
    · subst he
      obtain rfl : p = r := by rw [hp] at hr; cases hr; rfl
      have hso : toV ((parts.take k).map pE) ++ [[AV.own 5000 (p.map iE).length]] = vA parts k (p.map iE).length (k + 1) := vA_own
      repeat' (first | ((with_reducible refine gS ?_); apply Es_xs; rfl; rfl; (refine LStep_litOwnN (T := Try.tab) (len := 0) (id := 96) 5000 rfl rfl rfl rfl rfl rfl rfl rfl rfl rfl ?_ ?_; (refine Nat.le_of_ble_eq_true ?_; rfl); (unfold maxLen; omega)); exact newB_one rfl (freshH_cons (fresh_toV _ _) rfl rfl)) | ((with_reducible refine gA ?_); (first | refine AW_seq ?_ | refine AW_region ?_ | (refine AW_cond rfl (fun hc => ?_) (fun hc => ?_) <;> try (exfalso; simp only [cmpL] at hc; omega)) | refine AW_block ?_ | refine AW_skip ?_)) | ((with_reducible refine gS ?_); refine Es_s (T := Try.tab) rfl rfl rfl rfl ?_) | (((with_reducible refine gS ?_); apply Es_xs); rfl; rfl; (first | (refine LStep_append (T := Try.tab) rfl rfl rfl rfl rfl rfl rfl rfl rfl rfl ?_ ?_ ?_; rfl; (simp only [List.length_map, List.length_nil]; omega); (unfold maxLen; simp only [List.length_map, List.length_nil]; omega)) | (refine LStep_appendV (T := Try.tab) (news := [[AV.own 5000 (p.map iE).length]]) rfl rfl rfl rfl rfl rfl rfl rfl ?_ rfl rfl ?_ ?_ ?_; (exact fun h => h); rfl; (rw [hVl]; simp only [List.length_cons, List.length_nil]; omega); (unfold maxLen; rw [hVl]; simp only [List.length_cons, List.length_nil]; omega))); rfl) | (((with_reducible refine gS ?_); apply Es_q); rfl; rfl; (first | refine LStep_lenM (T := Try.tab) rfl rfl rfl rfl | (refine LStep_add rfl rfl rfl rfl ?_; (refine IntWalk.i64_in _ ?_; first | omega | (simp only [cmps] at *; omega))) | (refine LStep_indexM (T := Try.tab) (c := ?_) rfl rfl rfl rfl rfl rfl ?_; rotate_left; assumption) | (refine LStep_litA (T := Try.tab) rfl rfl rfl rfl rfl rfl rfl ?_; (refine Nat.le_of_ble_eq_true ?_; rfl)))) | (with_reducible refine Es_nil ?_) | (with_reducible refine then_n ?_) | (with_reducible refine block_n ?_))
      refine ⟨.inr (k + 1), ⟨by omega, by omega⟩, by show parts.length - (k + 1) < parts.length - k; omega, ?_, by (repeat' (first | exact trivial | exact rfl | (refine ⟨Or.inl rfl, ?_⟩) | (refine ⟨Or.inr rfl, ?_⟩) | (refine ⟨Or.inr trivial, ?_⟩) | (refine ⟨rfl, ?_⟩) | (refine ⟨?_, ?_⟩))), ?_, by (repeat' (first | exact trivial | exact rfl | (refine ⟨Or.inl rfl, ?_⟩) | (refine ⟨Or.inr rfl, ?_⟩) | (refine ⟨Or.inr trivial, ?_⟩) | (refine ⟨rfl, ?_⟩) | (refine ⟨?_, ?_⟩)))⟩
      all_goals (dsimp only; rw [← hso]; (repeat' (first | exact trivial | exact rfl | (refine ⟨Or.inl rfl, ?_⟩) | (refine ⟨Or.inr rfl, ?_⟩) | (refine ⟨Or.inr trivial, ?_⟩) | (refine ⟨rfl, ?_⟩) | (refine ⟨?_, ?_⟩))))
    · repeat' (first | ((with_reducible refine gS ?_); apply Es_xs; rfl; rfl; (refine LStep_litOwn (T := Try.tab) (len := 0) (id := 96) rfl rfl rfl rfl rfl rfl rfl rfl rfl rfl ?_ ?_; (refine Nat.le_of_ble_eq_true ?_; rfl); (unfold maxLen; omega)); exact newB_one rfl (freshH_cons (fresh_toV _ _) rfl rfl)) | ((with_reducible refine gA ?_); (first | refine AW_seq ?_ | refine AW_region ?_ | (refine AW_cond rfl (fun hc => ?_) (fun hc => ?_) <;> try (exfalso; simp only [cmpL] at hc; omega)) | refine AW_block ?_ | refine AW_skip ?_)) | ((with_reducible refine gS ?_); refine Es_s (T := Try.tab) rfl rfl rfl rfl ?_) | (((with_reducible refine gS ?_); apply Es_xs); rfl; rfl; (first | (refine LStep_appendD (T := Try.tab) (dst := 101) 96 rfl rfl rfl rfl rfl rfl rfl rfl rfl rfl rfl ?_ ?_ ?_; rfl; (simp only [List.length_map, List.length_nil]; omega); (unfold maxLen; simp only [List.length_map, List.length_nil]; omega)) | (refine LStep_appendV (T := Try.tab) (news := toV [pE r]) rfl rfl rfl rfl rfl rfl rfl rfl ?_ rfl rfl ?_ ?_ ?_; (exact Rep.toSla); rfl; (rw [hVl]; simp only [toV_len, List.length_cons, List.length_nil]; omega); (unfold maxLen; rw [hVl]; simp only [toV_len, List.length_cons, List.length_nil]; omega))); rfl) | (((with_reducible refine gS ?_); apply Es_q); rfl; rfl; (first | refine LStep_lenM (T := Try.tab) rfl rfl rfl rfl | (refine LStep_add rfl rfl rfl rfl ?_; (refine IntWalk.i64_in _ ?_; first | omega | (simp only [cmps] at *; omega))) | (refine LStep_indexM (T := Try.tab) (c := ?_) rfl rfl rfl rfl rfl rfl ?_; rotate_left; assumption) | (refine LStep_lit (T := Try.tab) rfl rfl rfl rfl rfl rfl rfl rfl ?_; (refine Nat.le_of_ble_eq_true ?_; rfl)))) | (with_reducible refine Es_nil ?_) | (with_reducible refine then_n ?_) | (with_reducible refine block_n ?_))
      refine ⟨.inl (k + 1), by show k + 1 ≤ a; omega, by show parts.length - (k + 1) < parts.length - k; omega, ?_, by (repeat' (first | exact trivial | exact rfl | (refine ⟨Or.inl rfl, ?_⟩) | (refine ⟨Or.inr rfl, ?_⟩) | (refine ⟨Or.inr trivial, ?_⟩) | (refine ⟨rfl, ?_⟩) | (refine ⟨?_, ?_⟩))), ?_, by (repeat' (first | exact trivial | exact rfl | (refine ⟨Or.inl rfl, ?_⟩) | (refine ⟨Or.inr rfl, ?_⟩) | (refine ⟨Or.inr trivial, ?_⟩) | (refine ⟨rfl, ?_⟩) | (refine ⟨?_, ?_⟩)))⟩
      all_goals (dsimp only; rw [← hst]; (repeat' (first | exact trivial | exact rfl | (refine ⟨Or.inl rfl, ?_⟩) | (refine ⟨Or.inr rfl, ?_⟩) | (refine ⟨Or.inr trivial, ?_⟩) | (refine ⟨rfl, ?_⟩) | (refine ⟨?_, ?_⟩))))
  · obtain ⟨hka, hk⟩ : a < k ∧ k ≤ parts.length := hs
    have hVl := vA_len (n := (p.map iE).length) hka hk
    by_cases hke : k < parts.length
    · have hr : parts[k]? = some parts[k] := List.getElem?_eq_getElem hke
      generalize parts[k] = r at hr
      have hst := vA_step (n := (p.map iE).length) hka hr
      have hrl := (e6 r (List.mem_of_getElem? hr)).1
      repeat' (first | ((with_reducible refine gS ?_); apply Es_xs; rfl; rfl; (refine LStep_litOwn (T := Try.tab) (len := 0) (id := 96) rfl rfl rfl rfl rfl rfl rfl rfl rfl rfl ?_ ?_; (refine Nat.le_of_ble_eq_true ?_; rfl); (unfold maxLen; omega)); exact newB_one rfl (freshH_cons (fresh_vA _ _) rfl rfl)) | ((with_reducible refine gA ?_); (first | refine AW_seq ?_ | refine AW_region ?_ | (refine AW_cond rfl (fun hc => ?_) (fun hc => ?_) <;> try (exfalso; simp only [cmpL] at hc; omega)) | refine AW_block ?_ | refine AW_skip ?_)) | ((with_reducible refine gS ?_); refine Es_s (T := Try.tab) rfl rfl rfl rfl ?_) | (((with_reducible refine gS ?_); apply Es_xs); rfl; rfl; (first | (refine LStep_appendD (T := Try.tab) (dst := 101) 96 rfl rfl rfl rfl rfl rfl rfl rfl rfl rfl rfl ?_ ?_ ?_; rfl; (simp only [List.length_map, List.length_nil]; omega); (unfold maxLen; simp only [List.length_map, List.length_nil]; omega)) | (refine LStep_appendV (T := Try.tab) (news := toV [pE r]) rfl rfl rfl rfl rfl rfl rfl rfl ?_ rfl rfl ?_ ?_ ?_; (exact Rep.toSla); rfl; (rw [hVl]; simp only [toV_len, List.length_cons, List.length_nil]; omega); (unfold maxLen; rw [hVl]; simp only [toV_len, List.length_cons, List.length_nil]; omega))); rfl) | (((with_reducible refine gS ?_); apply Es_q); rfl; rfl; (first | refine LStep_lenM (T := Try.tab) rfl rfl rfl rfl | (refine LStep_add rfl rfl rfl rfl ?_; (refine IntWalk.i64_in _ ?_; first | omega | (simp only [cmps] at *; omega))) | (refine LStep_indexM (T := Try.tab) (c := ?_) rfl rfl rfl rfl rfl rfl ?_; rotate_left; assumption) | (refine LStep_lit (T := Try.tab) rfl rfl rfl rfl rfl rfl rfl rfl ?_; (refine Nat.le_of_ble_eq_true ?_; rfl)))) | (with_reducible refine Es_nil ?_) | (with_reducible refine then_n ?_) | (with_reducible refine block_n ?_))
      refine ⟨.inr (k + 1), ⟨by omega, by omega⟩, by show parts.length - (k + 1) < parts.length - k; omega, ?_, by (repeat' (first | exact trivial | exact rfl | (refine ⟨Or.inl rfl, ?_⟩) | (refine ⟨Or.inr rfl, ?_⟩) | (refine ⟨Or.inr trivial, ?_⟩) | (refine ⟨rfl, ?_⟩) | (refine ⟨?_, ?_⟩))), ?_, by (repeat' (first | exact trivial | exact rfl | (refine ⟨Or.inl rfl, ?_⟩) | (refine ⟨Or.inr rfl, ?_⟩) | (refine ⟨Or.inr trivial, ?_⟩) | (refine ⟨rfl, ?_⟩) | (refine ⟨?_, ?_⟩)))⟩
      all_goals (dsimp only; rw [← hst]; (repeat' (first | exact trivial | exact rfl | (refine ⟨Or.inl rfl, ?_⟩) | (refine ⟨Or.inr rfl, ?_⟩) | (refine ⟨Or.inr trivial, ?_⟩) | (refine ⟨rfl, ?_⟩) | (refine ⟨?_, ?_⟩))))
    · obtain rfl : k = parts.length := by omega
      have hVa := vA_at (n := (p.map iE).length) (k := parts.length) ha
      have hLe : ((p.map iE).set j [D.sc (.int .i64 (v + 1))]).length = (p.map iE).length := by rw [List.length_set]
      have hN : ((parts.set a (p.set j (v + 1))).map pE).length = (vA parts a (p.map iE).length parts.length).length := by rw [hVl, List.length_map, List.length_set]
      have hE := congrArg (fun x => some (AObj.arrV 25 1 x)) (vA_done (n := (p.map iE).length) (p := p) (j := j) (y := v + 1) ha)
      repeat' (first | ((with_reducible refine gA ?_); refine AW_freezeV 2000 a 0 (id := 5000) (n := (p.map iE).length) (es := (p.map iE).set j [D.sc (.int .i64 (v + 1))]) rfl hVa rfl rfl hLe ?_; refine AW_unV 2000 (es := (parts.set a (p.set j (v + 1))).map pE) hE ?_; refine AW_freeze [13] (id := 2000) ⟨rfl, trivial⟩ rfl hN ?_; refine AW_drop [104, 106, 107, 109, 111, 112, 114, 117, 95, 96, 101, 102, 103] [2000, 5000] ?_) | ((with_reducible refine gA ?_); (first | refine AW_seq ?_ | refine AW_region ?_ | refine AW_regionD Try.mixed ?_ | (refine AW_cond rfl (fun hc => ?_) (fun hc => ?_) <;> try (exfalso; simp only [cmpL] at hc; omega)) | refine AW_ret ?_ | refine AW_exit ?_)) | ((first | ((with_reducible refine gS ?_); apply Es_q) | ((with_reducible refine gD ?_); apply Ed_q)); rfl; rfl; refine LStep_eqlT rfl rfl rfl rfl rfl) | (first | ((with_reducible refine gS ?_); refine Es_s (T := Try.tab) rfl rfl rfl rfl ?_) | ((with_reducible refine gD ?_); refine Ed_s (T := Try.tab) rfl rfl rfl rfl ?_)) | ((first | ((with_reducible refine gS ?_); apply Es_q) | ((with_reducible refine gD ?_); apply Ed_q)); rfl; rfl; (first | (refine LStep_indexOwnM (T := Try.tab) rfl rfl rfl rfl rfl rfl rfl rfl ?_; (first | omega | (simp only [List.length_map]; omega))) | (refine LStep_loadEM (T := Try.tab) (c := ?_) rfl rfl rfl rfl rfl rfl ?_ rfl; rotate_left; assumption) | (refine LStep_indexOwnV (T := Try.tab) rfl rfl rfl rfl rfl rfl rfl ?_ ?_ ?_; rfl; omega; (rw [hVl]; omega)) | (refine LStep_loadEV (T := Try.tab) (e := [AV.own 5000 (p.map iE).length]) rfl rfl rfl rfl rfl ?_ ?_ rfl; rfl; exact hVa) | refine LStep_call (cb) rfl rfl rfl rfl | refine LStep_call (cl) rfl rfl rfl rfl | refine LStep_call (cl2) rfl rfl rfl rfl | refine LStep_call (cv) rfl rfl rfl rfl | (refine lstep_catO rfl rfl rfl rfl ?_; (rw [show ByteArray.size ⟨#[120]⟩ = 1 from rfl]; omega)))) | ((first | ((with_reducible refine gS ?_); apply Es_xs) | ((with_reducible refine gD ?_); apply Ed_xs)); rfl; rfl; (first | (refine LStep_litOwn (T := Try.tab) (len := 0) (id := 138) rfl rfl rfl rfl rfl rfl rfl rfl rfl rfl ?_ ?_; (refine Nat.le_of_ble_eq_true ?_; rfl); (unfold maxLen; omega)) | (refine LStep_appendD (T := Try.tab) (dst := 143) 138 rfl rfl rfl rfl rfl rfl rfl rfl rfl rfl rfl ?_ ?_ ?_; rfl; (simp only [List.length_map, List.length_append, List.length_cons, List.length_nil]; omega); (unfold maxLen; simp only [List.length_map, List.length_append, List.length_cons, List.length_nil]; omega)) | (refine LStep_append (T := Try.tab) rfl rfl rfl rfl rfl rfl rfl rfl rfl rfl ?_ ?_ ?_; rfl; (simp only [List.length_map, List.length_nil]; omega); (unfold maxLen; simp only [List.length_map, List.length_nil]; omega))); rfl) | ((first | ((with_reducible refine gS ?_); apply Es_xn) | ((with_reducible refine gD ?_); apply Ed_xn)); rfl; rfl; (refine LStep_storeEM (T := Try.tab) (c := ?_) rfl rfl rfl rfl rfl rfl rfl rfl rfl ?_ rfl; rotate_left; assumption); rfl) | ((first | ((with_reducible refine gS ?_); apply Es_q) | ((with_reducible refine gD ?_); apply Ed_q)); rfl; rfl; (first | refine LStep_simp (T := Try.tab) rfl rfl | refine LStep_lenM (T := Try.tab) rfl rfl rfl rfl | (refine LStep_add rfl rfl rfl rfl ?_; (refine IntWalk.i64_in _ ?_; first | omega | (simp only [cmps] at *; omega))) | (refine LStep_indexM (T := Try.tab) (c := ?_) rfl rfl rfl rfl rfl rfl ?_; rotate_left; assumption) | (refine LStep_lit (T := Try.tab) rfl rfl rfl rfl rfl rfl rfl rfl ?_; (refine Nat.le_of_ble_eq_true ?_; rfl)) | refine LStep_buildN (T := Try.tab) rfl rfl rfl rfl rfl rfl rfl)) | ((first | refine Es_skip rfl ?_ rfl ?_ | refine Ed_skip rfl ?_ rfl ?_); (first | rfl | (refine w_tf ?_; assumption) | (refine w_ft ?_; assumption))) | ((first | ((with_reducible refine gS ?_); apply Es_xs) | ((with_reducible refine gD ?_); apply Ed_xs)); rfl; rfl; refine LStep_allocN (T := Try.tab) rfl rfl rfl rfl rfl rfl; rfl) | ((first | ((with_reducible refine gS ?_); apply Es_xn) | ((with_reducible refine gD ?_); apply Ed_xn)); rfl; rfl; (refine LStep_storeN (T := Try.tab) rfl rfl rfl rfl rfl rfl rfl ?_ rfl; (refine Nat.le_of_ble_eq_true ?_; rfl)); rfl) | (with_reducible refine Es_nil ?_) | ((with_reducible refine Ed_nil ?_ ?_); kernel_rfl) | (with_reducible refine then_n ?_) | (with_reducible refine then_e ?_) | ((with_reducible refine block_e ?_ ?_); rfl) | ((with_reducible refine gR ?_); first | refine ret1 rfl ?_ | refine ret2 rfl rfl ?_ | refine ret0 ?_ | refine end1 rfl ?_ | refine end0 ?_))
      all_goals rfl
theorem orderMore_ac (o : Ord) (dates : List Int) (parts : List (List Int)) (n m : Int) (fo : o.Fit) (hf : CutFit o dates parts) (hn1 : -9223372036854775808 ≤ n) (hn2 : n ≤ 9223372036854775807) (hm1 : -9223372036854775808 ≤ m) (hm2 : m ≤ 9223372036854775807) :
    AC Try.prog 3 [.agg o.cs, .d (.sl 1 (dates.map iE)), .d (.sl 1 (parts.map pE)), .d (.sc (.int .i64 n)), .d (.sc (.int .i64 m))] [] [] (fun r _ => r = .d (.sc (.bool true))) := by
  by_cases h : cutCode o dates parts ≠ 0 ∨ n < 0 ∨ (parts.length : Int) ≤ n ∨ m < 0 ∨ (o.lines.length : Int) ≤ m
  · exact orderMoreNo_ac o dates parts n m fo hf hn1 hn2 hm1 hm2 h
  · simp only [not_or, Classical.not_not] at h
    obtain ⟨a, rfl⟩ : ∃ k : Nat, n = (k : Nat) := ⟨n.toNat, by omega⟩
    obtain ⟨j, rfl⟩ : ∃ k : Nat, m = (k : Nat) := ⟨m.toNat, by omega⟩
    exact orderMoreYes_ac o dates parts a j fo hf (by omega) (by omega) h.1
end Go.Proofs.Ytjadbgmohmgaaaa
