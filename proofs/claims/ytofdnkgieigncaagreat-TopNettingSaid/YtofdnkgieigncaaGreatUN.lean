import Derived.Test.YtofdnkgieigncaaGreatUB
import Derived.Test.YtofdnkgieigncaaGreatTE
namespace Go.Proofs.YtofdnkgieigncaaGreat
open Go.SL

/-! ### TopNetting -/
section
variable {P : Program} {O : Org} {T : Tab P} {env : Env} {h : Hp} {o : Oper}
theorem LStep_bytesStrU {src dst e : Nat} {x : Operand} {xs : List Int} (ho : o.op = .convert src dst x) (hS : T.desc src = some (.slice e)) (hE : T.desc e = some (.int .u8)) (hD : T.desc dst = some .string) (hx : evalA env x = .d (.sl 1 (xs.map fun n => [.sc (.int .u8 n)]))) (h0 : 0 < xs.length) (hd : dstOk o.dst O.nt = true) :
    LStep P O o env h [] [] (.d (.sc (.string (strOfNums xs)))) [] := by
  refine .quiet hd (fun env' h' he _ a w G r => ⟨.string (strOfNums xs), ?_, .d _ _ (.sc _ rfl)⟩)
  have h1 := evalA_rep r.env x
  rw [he x (by simp [ho, Op.operands]), hx] at h1
  generalize hv : a.eval x = xv at h1
  cases h1 with
  | d _ _ h1 =>
    cases h1 with
    | sl _ _ A n c b off vs hn hcap hA hsz hcell hrep =>
      rw [List.length_map] at hn
      obtain ⟨rfl, _, _⟩ := hA (by omega)
      have := run_convert_bytes_arg (P := P) w src e (T.desc_ok hS) (T.desc_ok hE) b off n c xs hn (fun i hi => by
        have hi' : i < xs.length := by omega
        have e1 : (xs.map fun n => [D.sc (.int .u8 n)])[i]? = some [.sc (.int .u8 xs[i])] := by rw [List.getElem?_map, List.getElem?_eq_getElem hi']; rfl
        have e2 := hcell i _ e1 0 _ rfl
        have e3 := hrep i _ e1 0 _ rfl
        rw [Nat.mul_one, Nat.add_zero] at e2
        generalize vs i 0 = v at e2 e3
        cases e3 with
        | sc _ _ => rw [e2, List.getD_eq_getElem?_getD, List.getElem?_eq_getElem hi']; rfl) dst (T.desc_ok hD)
      simp [execOp, ho, hv, this]
end
theorem u8_fitU {n : Int} (h : 0 ≤ n ∧ n < 256) : IntKind.u8.wrap n = n := by
  simp [IntKind.wrap, IntKind.signed, IntKind.bits]
  omega
theorem LStep_remU {P : Program} {O : Org} {env : Env} {h : Hp} {o : Oper} {t yt : Nat} {x y : Operand} {k : IntKind} {m n q : Int} (ho : o.op = .binOp .rem t x y yt) (hx : evalA env x = .d (.sc (.int k m))) (hy : evalA env y = .d (.sc (.int k n))) (hn : n ≠ 0) (hq : m.tmod n = q) (hd : dstOk o.dst O.nt = true) :
    LStep P O o env h [] [] (.d (.sc (.int k q))) [] := by
  subst hq
  refine .quiet hd (fun env' h' he _ a w G r => ?_)
  have h1 := evalA_rep r.env x
  have h2 := evalA_rep r.env y
  rw [he x (by simp [ho, Op.operands]), hx] at h1
  rw [he y (by simp [ho, Op.operands]), hy] at h2
  exact ⟨.int k (m.tmod n), by simp [execOp, ho, h1.sc_inv, h2.sc_inv, eqGuard, binOp, Op.intDiv, hn], .d _ _ (.sc _ rfl)⟩
theorem cnm_at (k : Nat) (hk : k < 2) : ([[.sc (.string ⟨#[85, 83, 68]⟩)], [.sc (.string ⟨#[69, 85, 82]⟩)]] : List (List D))[((k : Nat) : Int).toNat]? = some [.sc (.string (cnm k))] := by
  have h1 : k = 0 ∨ k = 1 := by omega
  rcases h1 with rfl | rfl <;> rfl
def sumA (a : Int) : Nat → Int
  | 0 => 0
  | _ + 1 => a
def sumB (a : Int) : Nat → Int
  | 0 => 0
  | 1 => 0
  | _ + 2 => a
theorem P4_in (k : Nat) (hk : k < 4) : P4.getD k uUSD ∈ P4 := by
  have h1 : k = 0 ∨ k = 1 ∨ k = 2 ∨ k = 3 := by omega
  rcases h1 with rfl | rfl | rfl | rfl <;> simp [P4]
theorem C2_in (k : Nat) (hk : k < 2) : C2.getD k uUSD ∈ C2 := by
  have h1 : k = 0 ∨ k = 1 := by omega
  rcases h1 with rfl | rfl <;> simp [C2]
set_option maxRecDepth 20000 in
set_option maxHeartbeats 16000000 in
theorem topNetting_ac (l : List Ow) (way : Nat) (hl : l.length ≤ 140737488351232) (ho : ∀ x ∈ l, owOk x) (hw : way < 256) :
    AC Tryz.prog 4 [.d (.sl 4 (l.map owE)), .d (.sc (.int .u8 (way : Int)))] [] [] (fun r _ => r = .d (.sc (.bool true))) := by
  by_cases hfew : l.length ≤ 12
  rotate_left
  · refine AC_enter Tryz.func4 rfl Tryz.ntmps4 (rv := [.tmp 4]) rfl rfl (by simp) (fun w X G => ?_)
    repeat' (first | ((with_reducible refine gA ?_); (first | refine AW_seq ?_ | refine AW_region ?_ | (refine AW_cond rfl (fun hc => ?_) (fun hc => ?_) <;> try (exfalso; simp only [cmpL] at hc; omega)) | refine AW_ret ?_)) | ((with_reducible refine gS ?_); refine Es_s (T := Tryz.tab) rfl rfl rfl rfl ?_) | (((with_reducible refine gS ?_); apply Es_q); rfl; rfl; refine LStep_call (nets_ac) rfl rfl rfl rfl) | (((with_reducible refine gS ?_); apply Es_q); rfl; rfl; (first | refine LStep_simp (T := Tryz.tab) rfl rfl | refine LStep_lenM (T := Tryz.tab) rfl rfl rfl rfl)) | (with_reducible refine Es_nil ?_) | (with_reducible refine then_n ?_) | (with_reducible refine then_r ?_) | ((with_reducible refine gR ?_); first | refine ret1 rfl ?_ | refine ret2 rfl rfl ?_ | refine ret0 ?_ | refine end1 rfl ?_ | refine end0 ?_))
    all_goals simp only [cmps] at *
    all_goals first
      | rfl
      | (exfalso; omega)
      | trace_state
  have hD := owL_dbs ho
  have hDl := owL_len l
  have hDa := owL_amt ho
  have hS := amtS_le (B := 256) (by omega) hDa
  obtain ⟨hN, hB⟩ := good_of (fun d hd => (hDa d hd).1) (show amtS (owL l) ≤ 1099511627776 by omega)
  have h4 := hD.par4
  have k1 := netted_pairs hD hN
  have k2 := netted_net hD hB
  have k3 := netted_rings hD hN
  have c1 := pairsOk_ac (owL l) (by omega) hD.may hN
  have c2 := net_ok (owL l) (by omega) hD.may hB
  have c3 := ringsOk_ac (owL l) (by omega) hD.may hN (by omega)
  unfold ringsV at c3
  have rW : ((way : Nat) : Int).tmod 3 = ((way % 3 : Nat) : Int) := rfl
  have hw3 : way % 3 < 3 := Nat.mod_lt _ (by omega)
  generalize way % 3 = w3 at *
  obtain ⟨XN, kX, cA, cB, cC⟩ : ∃ XN, NettedOf (owL l) XN ∧ (eqb (w3 : Int) 0 = true → AC Tryz.prog 14 [.d (.sl 4 ((owL l).map dbE))] [] [] (fun r _ => r = .tup [.d (.sl 4 (XN.map dbE)), .d (.sc (.int .i64 0))])) ∧
      (eqb (w3 : Int) 1 = true → AC Tryz.prog 15 [.d (.sl 4 ((owL l).map dbE))] [] [] (fun r _ => r = .tup [.d (.sl 4 (XN.map dbE)), .d (.sc (.int .i64 0))])) ∧
      (eqb (w3 : Int) 0 = false → eqb (w3 : Int) 1 = false → AC Tryz.prog 16 [.d (.sl 4 ((owL l).map dbE))] [] [] (fun r _ => r = .tup [.d (.sl 4 (XN.map dbE)), .d (.sc (.int .i64 (goneN (owL l)))), .d (.sc (.int .i64 0))])) := by
    have hc : w3 = 0 ∨ w3 = 1 ∨ w3 = 2 := by omega
    rcases hc with rfl | rfl | rfl
    · exact ⟨_, k1, fun _ => c1, fun h => by rw [eqb_t] at h; omega, fun h => by rw [eqb_f] at h; omega⟩
    · exact ⟨_, k2, fun h => by rw [eqb_t] at h; omega, fun _ => c2, fun _ h => by rw [eqb_f] at h; omega⟩
    · exact ⟨_, k3, fun h => by rw [eqb_t] at h; omega, fun h => by rw [eqb_t] at h; omega, fun _ _ => c3⟩
  clear c1 c2 c3 k1 k2 k3
  have hXl := kX.len
  have hXa := kX.amt
  have hXp := fun k => amtS_pos (l := XN) (fun d hd => by have := (kX.dbs.one hd).2; omega) k
  have hDp := fun k => amtS_pos (l := owL l) (fun d hd => by have := (hD.one hd).2; omega) k
  have cS := same_ac (owL l) XN (by omega) (by omega)
  rw [sameP_of hD.may kX.dbs.may (fun s => (kX.pos s).symm)] at cS
  have b1 := booked_of (owL l) hD (by omega)
  have b2 := booked_of XN kX.dbs (by omega)
  have d1 := booked_ac (owL l) hD (by omega) (by omega)
  have d2 := booked_ac XN kX.dbs (by omega) (by omega)
  have hbal : ∀ p ∈ P4, ∀ c ∈ C2, balS (bookL (owL l)) (p, c) = balS (bookL XN) (p, c) := fun p hp c hc => by
    have e1 := b1.bal p hp c hc
    have e2 := b2.bal p hp c hc
    have : balA (bookL (owL l)).A (p, c) = balA (bookL XN).A (p, c) := by rw [e1, e2, kX.pos]
    exact this
  clear b1 b2
  refine AC_enter Tryz.func4 rfl Tryz.ntmps4 (rv := [.tmp 4]) rfl rfl (by simp) (fun w X G => ?_)
  repeat' (first | ((with_reducible refine gA ?_); (first | refine AW_seq ?_ | refine AW_region ?_ | (refine AW_cond rfl (fun hc => ?_) (fun hc => ?_) <;> try (exfalso; simp only [cmpL] at hc; omega)) | refine AW_block ?_ | refine AW_skip ?_)) | ((with_reducible refine gS ?_); refine Es_s (T := Tryz.tab) rfl rfl rfl rfl ?_) | (((with_reducible refine gS ?_); apply Es_q); rfl; rfl; refine LStep_call (nets_ac) rfl rfl rfl rfl) | (((with_reducible refine gS ?_); apply Es_q); rfl; rfl; (first | refine LStep_simp (T := Tryz.tab) rfl rfl | refine LStep_lenM (T := Tryz.tab) rfl rfl rfl rfl)) | (with_reducible refine Es_nil ?_) | (with_reducible refine then_n ?_))
  all_goals simp only [cmps] at *
  all_goals first
    | (exfalso; omega)
    | skip
  refine AW_openNil (t := 5) (id := 2500) (e := 55) (sz := 4) rfl rfl rfl rfl ?_
  refine AW_forE (S := Nat × List Db) (fun t => t.1 ≤ l.length ∧ t.2 = owL (l.take t.1)) (fun t => [(36, .d (.sc (.int .i64 (t.1 : Nat)))), (5, .own 2500 (t.2.map dbE).length)])
    (fun t => [(2500, some (.arr 55 4 (t.2.map dbE)))]) (fun t => l.length - t.1) (0, []) ⟨by simp, rfl⟩ (by (repeat' (first | exact trivial | exact rfl | (refine ⟨Or.inl rfl, ?_⟩) | (refine ⟨Or.inr rfl, ?_⟩) | (refine ⟨Or.inr trivial, ?_⟩) | (refine ⟨rfl, ?_⟩) | (refine ⟨?_, ?_⟩)))) (by (repeat' (first | exact trivial | exact rfl | (refine ⟨Or.inl rfl, ?_⟩) | (refine ⟨Or.inr rfl, ?_⟩) | (refine ⟨Or.inr trivial, ?_⟩) | (refine ⟨rfl, ?_⟩) | (refine ⟨?_, ?_⟩)))) ?_
  rintro ⟨k, E0⟩ ⟨hk, hE⟩
  dsimp only at hk hE ⊢
  by_cases hlt : k < l.length
  · obtain ⟨x, hx, _⟩ := drop_at hlt
    have hsn := owL_snoc (l.take k) x
    rw [← take_at hx, ← hE] at hsn
    have hlen : E0.length ≤ 12 := by rw [hE]; have := owL_len (l.take k); rw [List.length_take] at this; omega
    obtain ⟨⟨x1, x2⟩, x3, x4⟩ := ho x (List.mem_of_getElem? hx)
    obtain ⟨⟨f, t⟩, a, c⟩ := x
    dsimp only at x1 x2 x3 x4
    unfold owD pnm at hsn
    dsimp only at hsn
    have rF : ((f : Nat) : Int).tmod 4 = ((f % 4 : Nat) : Int) := rfl
    have rT : ((t : Nat) : Int).tmod 4 = ((t % 4 : Nat) : Int) := rfl
    have rC : ((c : Nat) : Int).tmod 2 = ((c % 2 : Nat) : Int) := rfl
    have qF : f % 4 < 4 := Nat.mod_lt _ (by omega)
    have qT : t % 4 < 4 := Nat.mod_lt _ (by omega)
    have qC : c % 2 < 2 := Nat.mod_lt _ (by omega)
    generalize f % 4 = f' at *
    generalize t % 4 = t' at *
    generalize c % 2 = c' at *
    have hc' := cnm_at c' qC
    clear cA cB cC cS d1 d2 hbal hXp hDp hDa
    repeat' (first | ((with_reducible refine gA ?_); (first | refine AW_seq ?_ | refine AW_region ?_ | refine AW_regionD Tryz.mixed ?_ | (refine AW_cond rfl (fun hc => ?_) (fun hc => ?_) <;> try (exfalso; simp only [cmpL] at hc; omega)) | refine AW_block ?_ | refine AW_skip ?_)) | ((first | ((with_reducible refine gS ?_); apply Es_q) | ((with_reducible refine gD ?_); apply Ed_q)); rfl; rfl; (refine LStep_add rfl rfl rfl rfl ?_; (refine u8_fitU ?_; omega))) | (first | ((with_reducible refine gS ?_); refine Es_s (T := Tryz.tab) rfl rfl rfl rfl ?_) | ((with_reducible refine gD ?_); refine Ed_s (T := Tryz.tab) rfl rfl rfl rfl ?_)) | ((first | ((with_reducible refine gS ?_); apply Es_q) | ((with_reducible refine gD ?_); apply Ed_q)); rfl; rfl; (first | (refine LStep_remU rfl rfl rfl ?_ rF rfl; omega) | (refine LStep_remU rfl rfl rfl ?_ rT rfl; omega) | (refine LStep_remU rfl rfl rfl ?_ rC rfl; omega) | (refine LStep_bytesStrU (T := Tryz.tab) (xs := [97 + (f' : Int)]) rfl rfl rfl rfl rfl ?_ rfl; (simp only [List.length_cons, List.length_nil]; omega)) | (refine LStep_bytesStrU (T := Tryz.tab) (xs := [97 + (t' : Int)]) rfl rfl rfl rfl rfl ?_ rfl; (simp only [List.length_cons, List.length_nil]; omega)))) | ((first | ((with_reducible refine gS ?_); apply Es_xs) | ((with_reducible refine gD ?_); apply Ed_xs)); rfl; rfl; (refine LStep_append (T := Tryz.tab) rfl rfl rfl rfl rfl rfl rfl rfl rfl rfl ?_ ?_ ?_; rfl; (simp only [List.length_append, List.length_map, List.length_cons, List.length_nil]; omega); (unfold maxLen; simp only [List.length_append, List.length_map, List.length_cons, List.length_nil]; omega)); rfl) | ((first | ((with_reducible refine gS ?_); apply Es_q) | ((with_reducible refine gD ?_); apply Ed_q)); rfl; rfl; (first | (refine LStep_add rfl rfl rfl rfl ?_; (refine IntWalk.i64_in _ ?_; first | omega | (simp only [cmps] at *; omega))) | (refine LStep_conv (T := Tryz.tab) rfl rfl rfl rfl rfl ?_; (refine IntWalk.i64_in _ ?_; first | omega | (simp only [cmps] at *; omega))) | (refine LStep_indexM (T := Tryz.tab) (c := ?_) rfl rfl rfl rfl rfl rfl ?_; rotate_left; assumption) | (refine LStep_index (T := Tryz.tab) (c := ?_) rfl rfl rfl rfl rfl rfl ?_ ?_; rotate_left; omega; (first | assumption | rfl)) | (refine LStep_lit (T := Tryz.tab) rfl rfl rfl rfl rfl rfl rfl rfl ?_; (refine Nat.le_of_ble_eq_true ?_; rfl)) | refine LStep_buildN (T := Tryz.tab) rfl rfl rfl rfl rfl rfl rfl)) | ((first | refine Es_skip rfl ?_ rfl ?_ | refine Ed_skip rfl ?_ rfl ?_); (first | rfl | (refine w_tf ?_; assumption) | (refine w_ft ?_; assumption))) | ((first | ((with_reducible refine gS ?_); apply Es_xs) | ((with_reducible refine gD ?_); apply Ed_xs)); rfl; rfl; refine LStep_allocN (T := Tryz.tab) rfl rfl rfl rfl rfl rfl; rfl) | ((first | ((with_reducible refine gS ?_); apply Es_xn) | ((with_reducible refine gD ?_); apply Ed_xn)); rfl; rfl; (refine LStep_storeN (T := Tryz.tab) rfl rfl rfl rfl rfl rfl rfl ?_ rfl; (refine Nat.le_of_ble_eq_true ?_; rfl)); rfl) | (with_reducible refine Es_nil ?_) | ((with_reducible refine Ed_nil ?_ ?_); kernel_rfl) | (with_reducible refine then_n ?_) | (with_reducible refine block_n ?_))
    all_goals simp only [cmps] at *
    all_goals first
      | (exfalso; omega)
      | (rw [if_neg hc] at hsn
         refine ⟨(k + 1, E0 ++ [((cnm c', strOfNums [97 + (f' : Int)], strOfNums [97 + (t' : Int)]), 1 + (a : Int))]), ⟨by omega, hsn.symm⟩, by dsimp only; omega, ?_, by (repeat' (first | exact trivial | exact rfl | (refine ⟨Or.inl rfl, ?_⟩) | (refine ⟨Or.inr rfl, ?_⟩) | (refine ⟨Or.inr trivial, ?_⟩) | (refine ⟨rfl, ?_⟩) | (refine ⟨?_, ?_⟩))), ?_, by (repeat' (first | exact trivial | exact rfl | (refine ⟨Or.inl rfl, ?_⟩) | (refine ⟨Or.inr rfl, ?_⟩) | (refine ⟨Or.inr trivial, ?_⟩) | (refine ⟨rfl, ?_⟩) | (refine ⟨?_, ?_⟩)))⟩
         · dsimp only; rw [List.map_append]; (repeat' (first | exact trivial | exact rfl | (refine ⟨Or.inl rfl, ?_⟩) | (refine ⟨Or.inr rfl, ?_⟩) | (refine ⟨Or.inr trivial, ?_⟩) | (refine ⟨rfl, ?_⟩) | (refine ⟨?_, ?_⟩)))
         · dsimp only; rw [List.map_append]; (repeat' (first | exact trivial | exact rfl | (refine ⟨Or.inl rfl, ?_⟩) | (refine ⟨Or.inr rfl, ?_⟩) | (refine ⟨Or.inr trivial, ?_⟩) | (refine ⟨rfl, ?_⟩) | (refine ⟨?_, ?_⟩))))
      | (rw [if_pos hc, List.append_nil] at hsn
         refine ⟨(k + 1, E0), ?_, by omega, by (repeat' (first | exact trivial | exact rfl | (refine ⟨Or.inl rfl, ?_⟩) | (refine ⟨Or.inr rfl, ?_⟩) | (refine ⟨Or.inr trivial, ?_⟩) | (refine ⟨rfl, ?_⟩) | (refine ⟨?_, ?_⟩))), by (repeat' (first | exact trivial | exact rfl | (refine ⟨Or.inl rfl, ?_⟩) | (refine ⟨Or.inr rfl, ?_⟩) | (refine ⟨Or.inr trivial, ?_⟩) | (refine ⟨rfl, ?_⟩) | (refine ⟨?_, ?_⟩))), by (repeat' (first | exact trivial | exact rfl | (refine ⟨Or.inl rfl, ?_⟩) | (refine ⟨Or.inr rfl, ?_⟩) | (refine ⟨Or.inr trivial, ?_⟩) | (refine ⟨rfl, ?_⟩) | (refine ⟨?_, ?_⟩))), by (repeat' (first | exact trivial | exact rfl | (refine ⟨Or.inl rfl, ?_⟩) | (refine ⟨Or.inr rfl, ?_⟩) | (refine ⟨Or.inr trivial, ?_⟩) | (refine ⟨rfl, ?_⟩) | (refine ⟨?_, ?_⟩)))⟩; exact ⟨by omega, hsn.symm⟩)
      | trace_state
  · have hkl : k = l.length := by omega
    subst hkl
    rw [List.take_length] at hE
    rw [← hE] at cS d1 hbal hDp kX hXl hXa hDl hD cA cB cC hS h4
    have hXm : (XN.map dbE).length = XN.length := by simp
    have hEm : (E0.map dbE).length = E0.length := by simp
    have hDt := fun (j : Nat) (d : Db) (hd : E0[j]? = some d) => amtS_take hd
    have hXt := fun (j : Nat) (d : Db) (hd : XN[j]? = some d) => amtS_take hd
    generalize hg1 : goneN E0 = g0 at *
    generalize hsD : bookL E0 = sD at *
    generalize hsX : bookL XN = sX at *
    clear hg1 hsD hsX hDa ho
    repeat' (first | ((with_reducible refine gA ?_); refine AW_freeze [5] (id := 2500) ⟨rfl, trivial⟩ rfl rfl ?_) | ((with_reducible refine gA ?_); (first | refine AW_seq ?_ | refine AW_region ?_ | refine AW_condF rfl ?_ | (refine AW_cond rfl (fun hc => ?_) (fun hc => ?_) <;> try (exfalso; simp only [cmpL] at hc; omega)) | refine AW_block ?_ | refine AW_skip ?_ | refine AW_exit ?_)) | (((with_reducible refine gS ?_); apply Es_q); rfl; rfl; refine LStep_neqF rfl rfl rfl rfl rfl) | ((with_reducible refine gS ?_); refine Es_s (T := Tryz.tab) rfl rfl rfl rfl ?_) | (((with_reducible refine gS ?_); apply Es_q); rfl; rfl; (first | (refine LStep_remU rfl rfl rfl ?_ rW rfl; omega) | refine LStep_call ((cA (eqb_t.1 (by assumption)))) rfl rfl rfl rfl | refine LStep_call ((cB (eqb_t.1 (by assumption)))) rfl rfl rfl rfl | refine LStep_call ((cC (eqb_f.1 (by assumption)) (eqb_f.1 (by assumption)))) rfl rfl rfl rfl | refine LStep_call (cS) rfl rfl rfl rfl | refine LStep_eqNilP (T := Tryz.tab) rfl rfl rfl rfl | refine LStep_buildArr (T := Tryz.tab) rfl rfl rfl rfl rfl rfl)) | (((with_reducible refine gS ?_); apply Es_xg); rfl; rfl; (first | refine LStep_callHN [] [(12, 4000), (1200, 4001), (1201, 4002), (1202, 4003)] d1 rfl rfl trivial rfl trivial rfl rfl | refine LStep_callHN [] [(12, 5000), (1200, 5001), (1201, 5002), (1202, 5003)] d2 rfl rfl trivial rfl trivial rfl rfl); rfl) | (((with_reducible refine gS ?_); apply Es_q); rfl; rfl; (first | refine LStep_simp (T := Tryz.tab) rfl rfl | refine LStep_wrap (T := Tryz.tab) rfl rfl | (refine LStep_lit (T := Tryz.tab) rfl rfl rfl rfl rfl rfl rfl rfl ?_; (refine Nat.le_of_ble_eq_true ?_; rfl)))) | (refine Es_skip rfl ?_ rfl ?_; (first | rfl | (refine w_tf ?_; assumption) | (refine w_ft ?_; assumption))) | (((with_reducible refine gS ?_); apply Es_xs); rfl; rfl; refine LStep_allocN (T := Tryz.tab) rfl rfl rfl rfl rfl rfl; rfl) | (((with_reducible refine gS ?_); apply Es_xn); rfl; rfl; (refine LStep_storeN (T := Tryz.tab) rfl rfl rfl rfl rfl rfl rfl ?_ rfl; (refine Nat.le_of_ble_eq_true ?_; rfl)); rfl) | (with_reducible refine Es_nil ?_) | (with_reducible refine then_n ?_) | (with_reducible refine then_e ?_) | (with_reducible refine block_n ?_) | ((with_reducible refine block_e ?_ ?_); rfl))
    all_goals simp only [cmps] at *
    all_goals first
      | (exfalso; omega)
      | skip
    clear cA cB cC cS d1 d2
    all_goals (
      refine AW_forE (S := Nat) (fun i => i ≤ 2) (fun i => [(118, .d (.sc (.int .i64 (i : Nat))))]) (fun i => [(13, some (.cells [.d (.sc (.int .i64 (sumA (amtS E0) i))), .d (.sc (.int .i64 (sumB (amtS XN) i)))]))]) (fun i => 2 - i) 0 (by omega) (by (repeat' (first | exact trivial | exact rfl | (refine ⟨Or.inl rfl, ?_⟩) | (refine ⟨Or.inr rfl, ?_⟩) | (refine ⟨Or.inr trivial, ?_⟩) | (refine ⟨rfl, ?_⟩) | (refine ⟨?_, ?_⟩)))) (by (repeat' (first | exact trivial | exact rfl | (refine ⟨Or.inl rfl, ?_⟩) | (refine ⟨Or.inr rfl, ?_⟩) | (refine ⟨Or.inr trivial, ?_⟩) | (refine ⟨rfl, ?_⟩) | (refine ⟨?_, ?_⟩)))) ?_
      intro i hi
      have hc3 : i = 0 ∨ i = 1 ∨ i = 2 := by omega
      rcases hc3 with rfl | rfl | rfl
      · repeat' (first | ((with_reducible refine gA ?_); (first | refine AW_seq ?_ | refine AW_region ?_ | (refine AW_cond rfl (fun hc => ?_) (fun hc => ?_) <;> try (exfalso; simp only [cmpL] at hc; omega)) | refine AW_block ?_ | refine AW_skip ?_)) | ((with_reducible refine gS ?_); refine Es_s (T := Tryz.tab) rfl rfl rfl rfl ?_) | (((with_reducible refine gS ?_); apply Es_q); rfl; rfl; (first | refine LStep_lenM (T := Tryz.tab) rfl rfl rfl rfl | (refine LStep_index (T := Tryz.tab) (c := ?_) rfl rfl rfl rfl rfl rfl ?_ ?_; rotate_left; omega; (first | assumption | rfl)))) | (with_reducible refine Es_nil ?_) | (with_reducible refine then_n ?_))
        all_goals simp only [cmps] at *
        all_goals first
          | (exfalso; omega)
          | skip
        refine AW_forE (S := Nat) (fun j => j ≤ E0.length) (fun j => [(125, .d (.sc (.int .i64 (j : Nat))))]) (fun j => [(13, some (.cells [.d (.sc (.int .i64 (amtS (E0.take j)))), .d (.sc (.int .i64 0))]))]) (fun j => E0.length - j) 0 (by omega) (by (repeat' (first | exact trivial | exact rfl | (refine ⟨Or.inl rfl, ?_⟩) | (refine ⟨Or.inr rfl, ?_⟩) | (refine ⟨Or.inr trivial, ?_⟩) | (refine ⟨rfl, ?_⟩) | (refine ⟨?_, ?_⟩)))) (by (repeat' (first | exact trivial | exact rfl | (refine ⟨Or.inl rfl, ?_⟩) | (refine ⟨Or.inr rfl, ?_⟩) | (refine ⟨Or.inr trivial, ?_⟩) | (refine ⟨rfl, ?_⟩) | (refine ⟨?_, ?_⟩)))) ?_
        intro j hj
        by_cases hjl : j < E0.length
        · obtain ⟨d, hd, _⟩ := drop_at hjl
          have e1 := hDt j d hd
          have b1 := hDp j
          have b2 := hDp (j + 1)
          rw [e1] at b2
          repeat' (first | ((with_reducible refine gA ?_); (first | refine AW_seq ?_ | refine AW_region ?_ | refine AW_regionD Tryz.mixed ?_ | (refine AW_cond rfl (fun hc => ?_) (fun hc => ?_) <;> try (exfalso; simp only [cmpL] at hc; omega)) | refine AW_block ?_ | refine AW_skip ?_)) | (first | ((with_reducible refine gS ?_); refine Es_s (T := Tryz.tab) rfl rfl rfl rfl ?_) | ((with_reducible refine gD ?_); refine Ed_s (T := Tryz.tab) rfl rfl rfl rfl ?_)) | ((first | ((with_reducible refine gS ?_); apply Es_q) | ((with_reducible refine gD ?_); apply Ed_q)); rfl; rfl; refine LStep_indexPtr (T := Tryz.tab) (k := 0) rfl rfl rfl rfl rfl rfl rfl) | ((first | ((with_reducible refine gS ?_); apply Es_q) | ((with_reducible refine gD ?_); apply Ed_q)); rfl; rfl; (first | (refine LStep_add rfl rfl rfl rfl ?_; (refine IntWalk.i64_in _ ?_; first | omega | (simp only [cmps] at *; omega))) | (refine LStep_indexM (T := Tryz.tab) (c := ?_) rfl rfl rfl rfl rfl rfl ?_; rotate_left; assumption))) | (refine Es_skip rfl ?_ rfl ?_; (first | rfl | (refine w_tf ?_; assumption) | (refine w_ft ?_; assumption))) | ((first | ((with_reducible refine gS ?_); apply Es_xs) | ((with_reducible refine gD ?_); apply Ed_xs)); rfl; rfl; refine LStep_allocN (T := Tryz.tab) rfl rfl rfl rfl rfl rfl; rfl) | ((first | ((with_reducible refine gS ?_); apply Es_xn) | ((with_reducible refine gD ?_); apply Ed_xn)); rfl; rfl; (refine LStep_storeN (T := Tryz.tab) rfl rfl rfl rfl rfl rfl rfl ?_ rfl; (refine Nat.le_of_ble_eq_true ?_; rfl)); rfl) | (with_reducible refine Es_nil ?_) | ((with_reducible refine Ed_nil ?_ ?_); kernel_rfl) | (with_reducible refine then_n ?_) | (with_reducible refine block_n ?_))
          all_goals simp only [cmps] at *
          all_goals first
            | (exfalso; omega)
            | (refine ⟨j + 1, by omega, by omega, by (repeat' (first | exact trivial | exact rfl | (refine ⟨Or.inl rfl, ?_⟩) | (refine ⟨Or.inr rfl, ?_⟩) | (refine ⟨Or.inr trivial, ?_⟩) | (refine ⟨rfl, ?_⟩) | (refine ⟨?_, ?_⟩))), by (repeat' (first | exact trivial | exact rfl | (refine ⟨Or.inl rfl, ?_⟩) | (refine ⟨Or.inr rfl, ?_⟩) | (refine ⟨Or.inr trivial, ?_⟩) | (refine ⟨rfl, ?_⟩) | (refine ⟨?_, ?_⟩))), by rw [e1]; (repeat' (first | exact trivial | exact rfl | (refine ⟨Or.inl rfl, ?_⟩) | (refine ⟨Or.inr rfl, ?_⟩) | (refine ⟨Or.inr trivial, ?_⟩) | (refine ⟨rfl, ?_⟩) | (refine ⟨?_, ?_⟩))), by (repeat' (first | exact trivial | exact rfl | (refine ⟨Or.inl rfl, ?_⟩) | (refine ⟨Or.inr rfl, ?_⟩) | (refine ⟨Or.inr trivial, ?_⟩) | (refine ⟨rfl, ?_⟩) | (refine ⟨?_, ?_⟩)))⟩; done)
            | trace_state
        · have : j = E0.length := by omega
          subst this
          rw [List.take_length]
          repeat' (first | ((with_reducible refine gA ?_); (first | refine AW_seq ?_ | refine AW_region ?_ | (refine AW_cond rfl (fun hc => ?_) (fun hc => ?_) <;> try (exfalso; simp only [cmpL] at hc; omega)) | refine AW_exit ?_)) | ((with_reducible refine gS ?_); refine Es_s (T := Tryz.tab) rfl rfl rfl rfl ?_) | (((with_reducible refine gS ?_); apply Es_q); rfl; rfl; (refine LStep_add rfl rfl rfl rfl ?_; (refine IntWalk.i64_in _ ?_; first | omega | (simp only [cmps] at *; omega)))) | (with_reducible refine Es_nil ?_) | (with_reducible refine then_n ?_) | (with_reducible refine then_e ?_) | (with_reducible refine block_n ?_) | ((with_reducible refine block_e ?_ ?_); rfl))
          all_goals simp only [cmps] at *
          all_goals first
            | (exfalso; omega)
            | (refine ⟨1, ?_, by omega, by (repeat' (first | exact trivial | exact rfl | (refine ⟨Or.inl rfl, ?_⟩) | (refine ⟨Or.inr rfl, ?_⟩) | (refine ⟨Or.inr trivial, ?_⟩) | (refine ⟨rfl, ?_⟩) | (refine ⟨?_, ?_⟩))), by (repeat' (first | exact trivial | exact rfl | (refine ⟨Or.inl rfl, ?_⟩) | (refine ⟨Or.inr rfl, ?_⟩) | (refine ⟨Or.inr trivial, ?_⟩) | (refine ⟨rfl, ?_⟩) | (refine ⟨?_, ?_⟩))), by (repeat' (first | exact trivial | exact rfl | (refine ⟨Or.inl rfl, ?_⟩) | (refine ⟨Or.inr rfl, ?_⟩) | (refine ⟨Or.inr trivial, ?_⟩) | (refine ⟨rfl, ?_⟩) | (refine ⟨?_, ?_⟩))), by (repeat' (first | exact trivial | exact rfl | (refine ⟨Or.inl rfl, ?_⟩) | (refine ⟨Or.inr rfl, ?_⟩) | (refine ⟨Or.inr trivial, ?_⟩) | (refine ⟨rfl, ?_⟩) | (refine ⟨?_, ?_⟩)))⟩; omega)
            | trace_state
      · repeat' (first | ((with_reducible refine gA ?_); (first | refine AW_seq ?_ | refine AW_region ?_ | (refine AW_cond rfl (fun hc => ?_) (fun hc => ?_) <;> try (exfalso; simp only [cmpL] at hc; omega)) | refine AW_block ?_ | refine AW_skip ?_)) | ((with_reducible refine gS ?_); refine Es_s (T := Tryz.tab) rfl rfl rfl rfl ?_) | (((with_reducible refine gS ?_); apply Es_q); rfl; rfl; (first | refine LStep_lenM (T := Tryz.tab) rfl rfl rfl rfl | (refine LStep_index (T := Tryz.tab) (c := ?_) rfl rfl rfl rfl rfl rfl ?_ ?_; rotate_left; omega; (first | assumption | rfl)))) | (with_reducible refine Es_nil ?_) | (with_reducible refine then_n ?_))
        all_goals simp only [cmps] at *
        all_goals first
          | (exfalso; omega)
          | skip
        refine AW_forE (S := Nat) (fun j => j ≤ XN.length) (fun j => [(125, .d (.sc (.int .i64 (j : Nat))))]) (fun j => [(13, some (.cells [.d (.sc (.int .i64 (amtS E0))), .d (.sc (.int .i64 (amtS (XN.take j))))]))]) (fun j => XN.length - j) 0 (by omega) (by (repeat' (first | exact trivial | exact rfl | (refine ⟨Or.inl rfl, ?_⟩) | (refine ⟨Or.inr rfl, ?_⟩) | (refine ⟨Or.inr trivial, ?_⟩) | (refine ⟨rfl, ?_⟩) | (refine ⟨?_, ?_⟩)))) (by (repeat' (first | exact trivial | exact rfl | (refine ⟨Or.inl rfl, ?_⟩) | (refine ⟨Or.inr rfl, ?_⟩) | (refine ⟨Or.inr trivial, ?_⟩) | (refine ⟨rfl, ?_⟩) | (refine ⟨?_, ?_⟩)))) ?_
        intro j hj
        by_cases hjl : j < XN.length
        · obtain ⟨d, hd, _⟩ := drop_at hjl
          have e1 := hXt j d hd
          have b1 := hXp j
          have b2 := hXp (j + 1)
          rw [e1] at b2
          repeat' (first | ((with_reducible refine gA ?_); (first | refine AW_seq ?_ | refine AW_region ?_ | refine AW_regionD Tryz.mixed ?_ | (refine AW_cond rfl (fun hc => ?_) (fun hc => ?_) <;> try (exfalso; simp only [cmpL] at hc; omega)) | refine AW_block ?_ | refine AW_skip ?_)) | (first | ((with_reducible refine gS ?_); refine Es_s (T := Tryz.tab) rfl rfl rfl rfl ?_) | ((with_reducible refine gD ?_); refine Ed_s (T := Tryz.tab) rfl rfl rfl rfl ?_)) | ((first | ((with_reducible refine gS ?_); apply Es_q) | ((with_reducible refine gD ?_); apply Ed_q)); rfl; rfl; refine LStep_indexPtr (T := Tryz.tab) (k := 1) rfl rfl rfl rfl rfl rfl rfl) | ((first | ((with_reducible refine gS ?_); apply Es_q) | ((with_reducible refine gD ?_); apply Ed_q)); rfl; rfl; (first | (refine LStep_add rfl rfl rfl rfl ?_; (refine IntWalk.i64_in _ ?_; first | omega | (simp only [cmps] at *; omega))) | (refine LStep_indexM (T := Tryz.tab) (c := ?_) rfl rfl rfl rfl rfl rfl ?_; rotate_left; assumption))) | (refine Es_skip rfl ?_ rfl ?_; (first | rfl | (refine w_tf ?_; assumption) | (refine w_ft ?_; assumption))) | ((first | ((with_reducible refine gS ?_); apply Es_xs) | ((with_reducible refine gD ?_); apply Ed_xs)); rfl; rfl; refine LStep_allocN (T := Tryz.tab) rfl rfl rfl rfl rfl rfl; rfl) | ((first | ((with_reducible refine gS ?_); apply Es_xn) | ((with_reducible refine gD ?_); apply Ed_xn)); rfl; rfl; (refine LStep_storeN (T := Tryz.tab) rfl rfl rfl rfl rfl rfl rfl ?_ rfl; (refine Nat.le_of_ble_eq_true ?_; rfl)); rfl) | (with_reducible refine Es_nil ?_) | ((with_reducible refine Ed_nil ?_ ?_); kernel_rfl) | (with_reducible refine then_n ?_) | (with_reducible refine block_n ?_))
          all_goals simp only [cmps] at *
          all_goals first
            | (exfalso; omega)
            | (refine ⟨j + 1, by omega, by omega, by (repeat' (first | exact trivial | exact rfl | (refine ⟨Or.inl rfl, ?_⟩) | (refine ⟨Or.inr rfl, ?_⟩) | (refine ⟨Or.inr trivial, ?_⟩) | (refine ⟨rfl, ?_⟩) | (refine ⟨?_, ?_⟩))), by (repeat' (first | exact trivial | exact rfl | (refine ⟨Or.inl rfl, ?_⟩) | (refine ⟨Or.inr rfl, ?_⟩) | (refine ⟨Or.inr trivial, ?_⟩) | (refine ⟨rfl, ?_⟩) | (refine ⟨?_, ?_⟩))), by rw [e1]; (repeat' (first | exact trivial | exact rfl | (refine ⟨Or.inl rfl, ?_⟩) | (refine ⟨Or.inr rfl, ?_⟩) | (refine ⟨Or.inr trivial, ?_⟩) | (refine ⟨rfl, ?_⟩) | (refine ⟨?_, ?_⟩))), by (repeat' (first | exact trivial | exact rfl | (refine ⟨Or.inl rfl, ?_⟩) | (refine ⟨Or.inr rfl, ?_⟩) | (refine ⟨Or.inr trivial, ?_⟩) | (refine ⟨rfl, ?_⟩) | (refine ⟨?_, ?_⟩)))⟩; done)
            | trace_state
        · have : j = XN.length := by omega
          subst this
          rw [List.take_length]
          repeat' (first | ((with_reducible refine gA ?_); (first | refine AW_seq ?_ | refine AW_region ?_ | (refine AW_cond rfl (fun hc => ?_) (fun hc => ?_) <;> try (exfalso; simp only [cmpL] at hc; omega)) | refine AW_exit ?_)) | ((with_reducible refine gS ?_); refine Es_s (T := Tryz.tab) rfl rfl rfl rfl ?_) | (((with_reducible refine gS ?_); apply Es_q); rfl; rfl; (refine LStep_add rfl rfl rfl rfl ?_; (refine IntWalk.i64_in _ ?_; first | omega | (simp only [cmps] at *; omega)))) | (with_reducible refine Es_nil ?_) | (with_reducible refine then_n ?_) | (with_reducible refine then_e ?_) | (with_reducible refine block_n ?_) | ((with_reducible refine block_e ?_ ?_); rfl))
          all_goals simp only [cmps] at *
          all_goals first
            | (exfalso; omega)
            | (refine ⟨2, ?_, by omega, by (repeat' (first | exact trivial | exact rfl | (refine ⟨Or.inl rfl, ?_⟩) | (refine ⟨Or.inr rfl, ?_⟩) | (refine ⟨Or.inr trivial, ?_⟩) | (refine ⟨rfl, ?_⟩) | (refine ⟨?_, ?_⟩))), by (repeat' (first | exact trivial | exact rfl | (refine ⟨Or.inl rfl, ?_⟩) | (refine ⟨Or.inr rfl, ?_⟩) | (refine ⟨Or.inr trivial, ?_⟩) | (refine ⟨rfl, ?_⟩) | (refine ⟨?_, ?_⟩))), by (repeat' (first | exact trivial | exact rfl | (refine ⟨Or.inl rfl, ?_⟩) | (refine ⟨Or.inr rfl, ?_⟩) | (refine ⟨Or.inr trivial, ?_⟩) | (refine ⟨rfl, ?_⟩) | (refine ⟨?_, ?_⟩))), by (repeat' (first | exact trivial | exact rfl | (refine ⟨Or.inl rfl, ?_⟩) | (refine ⟨Or.inr rfl, ?_⟩) | (refine ⟨Or.inr trivial, ?_⟩) | (refine ⟨rfl, ?_⟩) | (refine ⟨?_, ?_⟩)))⟩; omega)
            | trace_state
      · repeat' (first | ((with_reducible refine gA ?_); (first | refine AW_seq ?_ | refine AW_region ?_ | (refine AW_cond rfl (fun hc => ?_) (fun hc => ?_) <;> try (exfalso; simp only [cmpL] at hc; omega)) | refine AW_block ?_ | refine AW_ret ?_ | refine AW_skip ?_ | refine AW_exit ?_)) | ((with_reducible refine gS ?_); refine Es_s (T := Tryz.tab) rfl rfl rfl rfl ?_) | (((with_reducible refine gS ?_); apply Es_q); rfl; rfl; (first | refine LStep_indexPtr (T := Tryz.tab) (k := 0) rfl rfl rfl rfl rfl rfl rfl | refine LStep_indexPtr (T := Tryz.tab) (k := 1) rfl rfl rfl rfl rfl rfl rfl)) | (((with_reducible refine gS ?_); apply Es_q); rfl; rfl; (first | refine LStep_wrap (T := Tryz.tab) rfl rfl | (refine LStep_lit (T := Tryz.tab) rfl rfl rfl rfl rfl rfl rfl rfl ?_; (refine Nat.le_of_ble_eq_true ?_; rfl)))) | (with_reducible refine Es_nil ?_) | (with_reducible refine then_n ?_) | (with_reducible refine then_r ?_) | (with_reducible refine then_e ?_) | ((with_reducible refine block_e ?_ ?_); rfl) | ((with_reducible refine gR ?_); first | refine ret1 rfl ?_ | refine ret2 rfl rfl ?_ | refine ret0 ?_ | refine end1 rfl ?_ | refine end0 ?_))
        all_goals simp only [cmps] at *
        all_goals first
          | (exfalso; omega)
          | (exfalso; simp only [sumA, sumB] at *; omega)
          | skip
        refine AW_forE (S := Nat) (fun k => k ≤ 4) (fun k => [(145, .d (.sc (.int .i64 (k : Nat))))]) (fun _ => []) (fun k => 4 - k) 0 (by omega) (by (repeat' (first | exact trivial | exact rfl | (refine ⟨Or.inl rfl, ?_⟩) | (refine ⟨Or.inr rfl, ?_⟩) | (refine ⟨Or.inr trivial, ?_⟩) | (refine ⟨rfl, ?_⟩) | (refine ⟨?_, ?_⟩)))) (by (repeat' (first | exact trivial | exact rfl | (refine ⟨Or.inl rfl, ?_⟩) | (refine ⟨Or.inr rfl, ?_⟩) | (refine ⟨Or.inr trivial, ?_⟩) | (refine ⟨rfl, ?_⟩) | (refine ⟨?_, ?_⟩)))) ?_
        intro k hk4
        by_cases hk : k < 4
        · have hp := P4_at k hk
          have hpm := P4_in k hk
          generalize P4.getD k uUSD = pn at *
          repeat' (first | ((with_reducible refine gA ?_); (first | refine AW_seq ?_ | refine AW_region ?_ | (refine AW_cond rfl (fun hc => ?_) (fun hc => ?_) <;> try (exfalso; simp only [cmpL] at hc; omega)) | refine AW_block ?_ | refine AW_skip ?_)) | ((with_reducible refine gS ?_); refine Es_s (T := Tryz.tab) rfl rfl rfl rfl ?_) | (((with_reducible refine gS ?_); apply Es_q); rfl; rfl; (refine LStep_index (T := Tryz.tab) (c := ?_) rfl rfl rfl rfl rfl rfl ?_ ?_; rotate_left; omega; exact hp)) | (((with_reducible refine gS ?_); apply Es_q); rfl; rfl; (first | refine LStep_wrap (T := Tryz.tab) rfl rfl | (refine LStep_lit (T := Tryz.tab) rfl rfl rfl rfl rfl rfl rfl rfl ?_; (refine Nat.le_of_ble_eq_true ?_; rfl)))) | (with_reducible refine Es_nil ?_) | (with_reducible refine then_n ?_))
          all_goals simp only [cmps] at *
          all_goals first
            | (exfalso; omega)
            | skip
          refine AW_forE (S := Nat) (fun j => j ≤ 2) (fun j => [(151, .d (.sc (.int .i64 (j : Nat))))]) (fun _ => []) (fun j => 2 - j) 0 (by omega) (by (repeat' (first | exact trivial | exact rfl | (refine ⟨Or.inl rfl, ?_⟩) | (refine ⟨Or.inr rfl, ?_⟩) | (refine ⟨Or.inr trivial, ?_⟩) | (refine ⟨rfl, ?_⟩) | (refine ⟨?_, ?_⟩)))) (by (repeat' (first | exact trivial | exact rfl | (refine ⟨Or.inl rfl, ?_⟩) | (refine ⟨Or.inr rfl, ?_⟩) | (refine ⟨Or.inr trivial, ?_⟩) | (refine ⟨rfl, ?_⟩) | (refine ⟨?_, ?_⟩)))) ?_
          intro j hj2
          by_cases hj : j < 2
          · have hcc := C2_at j hj
            have hcm := C2_in j hj
            generalize C2.getD j uUSD = cn at *
            have a1 := balance_ac sD pn cn
            have a2 := balance_ac sX pn cn
            rw [hbal pn hpm cn hcm] at a1
            generalize balS sX (pn, cn) = vb at *
            repeat' (first | ((with_reducible refine gA ?_); (first | refine AW_seq ?_ | refine AW_region ?_ | (refine AW_cond rfl (fun hc => ?_) (fun hc => ?_) <;> try (exfalso; simp only [cmpL] at hc; omega)) | refine AW_block ?_ | refine AW_skip ?_)) | ((with_reducible refine gS ?_); refine Es_s (T := Tryz.tab) rfl rfl rfl rfl ?_) | (((with_reducible refine gS ?_); apply Es_q); rfl; rfl; (refine LStep_index (T := Tryz.tab) (c := ?_) rfl rfl rfl rfl rfl rfl ?_ ?_; rotate_left; omega; exact hcc)) | (((with_reducible refine gS ?_); apply Es_xg); rfl; rfl; (first | refine LStep_callHN [(1000, 4000), (1001, 4001), (1002, 4002), (1003, 4003)] [] a1 rfl rfl ⟨rfl, rfl, rfl, rfl, trivial⟩ rfl ⟨trivial, trivial, rfl, trivial, trivial⟩ rfl rfl | refine LStep_callHN [(1000, 5000), (1001, 5001), (1002, 5002), (1003, 5003)] [] a2 rfl rfl ⟨rfl, rfl, rfl, rfl, trivial⟩ rfl ⟨trivial, trivial, rfl, trivial, trivial⟩ rfl rfl); rfl) | (((with_reducible refine gS ?_); apply Es_q); rfl; rfl; (refine LStep_add rfl rfl rfl rfl ?_; (refine IntWalk.i64_in _ ?_; first | omega | (simp only [cmps] at *; omega)))) | (with_reducible refine Es_nil ?_) | (with_reducible refine then_n ?_) | (with_reducible refine block_n ?_))
            all_goals simp only [cmps] at *
            all_goals first
              | (exfalso; omega)
              | (refine ⟨j + 1, ?_, by omega, by (repeat' (first | exact trivial | exact rfl | (refine ⟨Or.inl rfl, ?_⟩) | (refine ⟨Or.inr rfl, ?_⟩) | (refine ⟨Or.inr trivial, ?_⟩) | (refine ⟨rfl, ?_⟩) | (refine ⟨?_, ?_⟩))), by (repeat' (first | exact trivial | exact rfl | (refine ⟨Or.inl rfl, ?_⟩) | (refine ⟨Or.inr rfl, ?_⟩) | (refine ⟨Or.inr trivial, ?_⟩) | (refine ⟨rfl, ?_⟩) | (refine ⟨?_, ?_⟩))), by (repeat' (first | exact trivial | exact rfl | (refine ⟨Or.inl rfl, ?_⟩) | (refine ⟨Or.inr rfl, ?_⟩) | (refine ⟨Or.inr trivial, ?_⟩) | (refine ⟨rfl, ?_⟩) | (refine ⟨?_, ?_⟩))), by (repeat' (first | exact trivial | exact rfl | (refine ⟨Or.inl rfl, ?_⟩) | (refine ⟨Or.inr rfl, ?_⟩) | (refine ⟨Or.inr trivial, ?_⟩) | (refine ⟨rfl, ?_⟩) | (refine ⟨?_, ?_⟩)))⟩; omega)
              | trace_state
          · have : j = 2 := by omega
            subst this
            repeat' (first | ((with_reducible refine gA ?_); (first | refine AW_seq ?_ | refine AW_region ?_ | (refine AW_cond rfl (fun hc => ?_) (fun hc => ?_) <;> try (exfalso; simp only [cmpL] at hc; omega)) | refine AW_exit ?_)) | ((with_reducible refine gS ?_); refine Es_s (T := Tryz.tab) rfl rfl rfl rfl ?_) | (((with_reducible refine gS ?_); apply Es_q); rfl; rfl; (refine LStep_add rfl rfl rfl rfl ?_; (refine IntWalk.i64_in _ ?_; first | omega | (simp only [cmps] at *; omega)))) | (with_reducible refine Es_nil ?_) | (with_reducible refine then_n ?_) | (with_reducible refine then_e ?_) | (with_reducible refine block_n ?_) | ((with_reducible refine block_e ?_ ?_); rfl))
            all_goals simp only [cmps] at *
            all_goals first
              | (exfalso; omega)
              | (refine ⟨k + 1, ?_, by omega, by (repeat' (first | exact trivial | exact rfl | (refine ⟨Or.inl rfl, ?_⟩) | (refine ⟨Or.inr rfl, ?_⟩) | (refine ⟨Or.inr trivial, ?_⟩) | (refine ⟨rfl, ?_⟩) | (refine ⟨?_, ?_⟩))), by (repeat' (first | exact trivial | exact rfl | (refine ⟨Or.inl rfl, ?_⟩) | (refine ⟨Or.inr rfl, ?_⟩) | (refine ⟨Or.inr trivial, ?_⟩) | (refine ⟨rfl, ?_⟩) | (refine ⟨?_, ?_⟩))), by (repeat' (first | exact trivial | exact rfl | (refine ⟨Or.inl rfl, ?_⟩) | (refine ⟨Or.inr rfl, ?_⟩) | (refine ⟨Or.inr trivial, ?_⟩) | (refine ⟨rfl, ?_⟩) | (refine ⟨?_, ?_⟩))), by (repeat' (first | exact trivial | exact rfl | (refine ⟨Or.inl rfl, ?_⟩) | (refine ⟨Or.inr rfl, ?_⟩) | (refine ⟨Or.inr trivial, ?_⟩) | (refine ⟨rfl, ?_⟩) | (refine ⟨?_, ?_⟩)))⟩; omega)
              | trace_state
        · have : k = 4 := by omega
          subst this
          repeat' (first | ((with_reducible refine gA ?_); (first | refine AW_seq ?_ | refine AW_region ?_ | (refine AW_cond rfl (fun hc => ?_) (fun hc => ?_) <;> try (exfalso; simp only [cmpL] at hc; omega)) | refine AW_ret ?_ | refine AW_exit ?_)) | ((with_reducible refine gS ?_); refine Es_s (T := Tryz.tab) rfl rfl rfl rfl ?_) | (with_reducible refine Es_nil ?_) | (with_reducible refine then_n ?_) | (with_reducible refine then_e ?_) | ((with_reducible refine block_e ?_ ?_); rfl) | ((with_reducible refine gR ?_); first | refine ret1 rfl ?_ | refine ret2 rfl rfl ?_ | refine ret0 ?_ | refine end1 rfl ?_ | refine end0 ?_))
          all_goals simp only [cmps] at *
          all_goals first
            | (exfalso; omega)
            | rfl
            | trace_state
    )
end Go.Proofs.YtofdnkgieigncaaGreat
