import Derived.Test.YtaejikoicbbeeaaWS
namespace Go.Proofs.Ytaejikoicbbeeaa
open Go.SL
/-! ### NettingOrder: a debt is cut in two -/
theorem dbE_get {m : List Db} {i : Nat} {x : Db} (hx : m[i]? = some x) : (m.map dbE)[i]? = some [.sc (.string x.1.2.1), .sc (.string x.1.2.2), .sc (.string x.1.1), .sc (.int .i64 x.2)] := by rw [List.getElem?_map, hx]; rfl
set_option maxRecDepth 10000 in
set_option maxHeartbeats 32000000 in
theorem lcut_ac (l : List Db) (k i : Nat) (n : Int) (x : Db) (hl : l.length ≤ 140737488351232) (hs : ∀ d ∈ l, smD d) (hf : fewD l = true) (hm : l.all mayD = true) (hk : k ≤ l.length) (hx : (l.drop k ++ l.take k)[i]? = some x) (hn0 : 0 < n) (hn3 : n < x.2) :
    AC Try.prog 5 [.d (.sl 4 (l.map dbE)), .d (.sc (.int .i64 (k : Nat))), .d (.sc (.int .i64 (i : Nat))), .d (.sc (.int .i64 n))] [] [] (fun r _ => r = .d (.sc (.bool true))) := by
  have ca := awake_ac
  have cf := rFew_ac l hl hs
  rw [hf] at cf
  have hn := few_len hf
  have cA := rAll_ac l (by omega) hs
  rw [hm] at cA
  have g1 : ltb ((k : Nat) : Int) 0 = false := by rw [ltb_f]; omega
  have g2 : ltb ((l.length : Nat) : Int) ((k : Nat) : Int) = false := by rw [ltb_f]; omega
  have g3 : leb 0 ((i : Nat) : Int) = true := by rw [leb_t]; omega
  have hml := turn_len l k
  have hmm := turn_all hm k
  have hmo := turn_ow l k
  have hke : (l.drop k ++ l.take k).map dbE = (l.drop k).map dbE ++ (l.take k).map dbE := List.map_append
  have hd31 : (l.drop k).length ≤ 31 := by rw [List.length_drop]; omega
  have ht31 : (l.take k).length ≤ 31 := by rw [List.length_take]; omega
  have hget := dbE_get hx
  have hxm := mayD_t (all_may hmm x (List.mem_of_getElem? hx))
  rw [hke] at hget
  have g4 : ltb ((i : Nat) : Int) ((((l.drop k).map dbE ++ (l.take k).map dbE).length : Nat) : Int) = true := by
    have := (List.getElem?_eq_some_iff.1 hget).1
    rw [ltb_t]; omega
  have g5 : ltb 0 n = true := by rw [ltb_t]; exact hn0
  have g6 : ltb n x.2 = true := by rw [ltb_t]; exact hn3
  have hwo : ∀ j, ow ((l.drop k ++ l.take k).set i (x.1, n) ++ [(x.1, x.2 - n)]) j = ow l j := fun j => by rw [ow_cut _ i x.1 x.2 n hx, hmo]
  have hwm := cut_all hmm hx hn0 hn3
  have hwl : ((l.drop k ++ l.take k).set i (x.1, n) ++ [(x.1, x.2 - n)]).length ≤ 40 := by rw [List.length_append, List.length_set]; simp only [List.length_cons, List.length_nil]; omega
  obtain ⟨A, nA, _, c1, c2⟩ := ordP l _ (by omega) hwl hm hwm hwo
  obtain ⟨B, nB, _, c3, c4⟩ := ordN l _ (by omega) hwl hm hwm hwo
  obtain ⟨C, gC, nC, _, c5, c6⟩ := ordR l _ (by omega) hwl hm hwm hwo
  have hwe : ((l.drop k ++ l.take k).set i (x.1, n) ++ [(x.1, x.2 - n)]).map dbE = ((l.drop k).map dbE ++ (l.take k).map dbE).set i [.sc (.string x.1.2.1), .sc (.string x.1.2.2), .sc (.string x.1.1), .sc (.int .i64 n)] ++ [[.sc (.string x.1.2.1), .sc (.string x.1.2.2), .sc (.string x.1.1), .sc (.int .i64 (x.2 - n))]] := by
    rw [List.map_append, List.map_set, hke]; rfl
  rw [hwe] at c2 c4 c6
  have z1 := rSame_ac A A (by omega)
  have z2 := rSame_ac B B (by omega)
  have z3 := rSame_ac C C (by omega)
  rw [sameB_self] at z1 z2 z3
  have e1 : eqb nA nA = true := eqb_t.2 rfl
  have e2 : eqb nB nB = true := eqb_t.2 rfl
  have e3 : eqb nC nC = true := eqb_t.2 rfl
  have e4 : eqb gC gC = true := eqb_t.2 rfl
  have hlt : i < ((l.drop k).map dbE ++ (l.take k).map dbE).length := (List.getElem?_eq_some_iff.1 hget).1
  have hxb : 1 ≤ x.2 ∧ x.2 ≤ 1099511627776 := by omega
  have hNl : ((l.drop k).map dbE ++ (l.take k).map dbE).length ≤ 31 := by rw [← hke, List.length_map]; omega
  obtain ⟨⟨xc, xp, xq⟩, xm⟩ := x
  dsimp only at hget hwe c2 c4 c6 g6 hxb
  refine AC_enter Try.func5 rfl Try.ntmps5 (rv := [.tmp 8]) rfl rfl (by simp) (fun w X G => ?_)
  repeat' (first | ((with_reducible refine gA ?_); refine AW_weakG 53 (.own 45 ([] ++ (l.drop k).map dbE ++ (l.take k).map dbE).length) rfl (E := [(0, .d (.sl 4 (l.map dbE))), (2, .d (.sc (.int .i64 (i : Nat)))), (3, .d (.sc (.int .i64 n))), (9, .own 45 ((l.drop k).map dbE ++ (l.take k).map dbE).length)]) (H := [(45, some (.arr 39 4 ((l.drop k).map dbE ++ (l.take k).map dbE)))]) ?_ ⟨rfl, rfl, rfl, rfl, trivial⟩ ⟨rfl, trivial⟩) | ((with_reducible refine gA ?_); refine AW_freeze [9, 92] (id := 45) ⟨rfl, rfl, trivial⟩ rfl rfl ?_) | ((with_reducible refine gA ?_); (first | refine AW_seq ?_ | refine AW_region ?_ | refine AW_regionD Try.mixed ?_ | refine AW_condF rfl ?_ | (refine AW_condY rfl ?_ ?_; assumption) | (refine AW_condN rfl ?_ ?_; assumption) | refine AW_ret ?_ | refine AW_skip ?_)) | (first | ((with_reducible refine gS ?_); refine Es_s (T := Try.tab) rfl rfl rfl rfl ?_) | ((with_reducible refine gD ?_); refine Ed_s (T := Try.tab) rfl rfl rfl rfl ?_)) | ((first | ((with_reducible refine gS ?_); apply Es_q) | ((with_reducible refine gD ?_); apply Ed_q)); rfl; (first | rfl | (refine w_tt ?_; assumption) | (refine w_ff ?_; assumption)); (first | refine LStep_call (ca) rfl rfl rfl rfl | refine LStep_call (cf) rfl rfl rfl rfl | refine LStep_call (cA) rfl rfl rfl rfl | refine LStep_dropM (T := Try.tab) rfl rfl rfl rfl rfl rfl hk | refine LStep_takeM (T := Try.tab) rfl rfl rfl rfl rfl rfl hk | refine LStep_lenOwn (T := Try.tab) rfl rfl rfl rfl rfl rfl | refine LStep_indexOwnM (T := Try.tab) rfl rfl rfl rfl rfl rfl rfl rfl hlt | refine LStep_loadE (T := Try.tab) rfl rfl rfl rfl rfl rfl hget rfl | (refine LStep_loadEA (T := Try.tab) rfl rfl rfl rfl rfl rfl rfl hget ?_; (refine Nat.le_of_ble_eq_true ?_; rfl)) | (refine LStep_fieldAddrE (T := Try.tab) rfl rfl rfl rfl _ _ rfl ?_; rfl) | refine LStep_call (c1) rfl rfl rfl rfl | refine LStep_call (c2) rfl rfl rfl rfl | refine LStep_call (c3) rfl rfl rfl rfl | refine LStep_call (c4) rfl rfl rfl rfl | refine LStep_call (c5) rfl rfl rfl rfl | refine LStep_call (c6) rfl rfl rfl rfl | refine LStep_call (z1) rfl rfl rfl rfl | refine LStep_call (z2) rfl rfl rfl rfl | refine LStep_call (z3) rfl rfl rfl rfl)) | ((first | ((with_reducible refine gS ?_); apply Es_xs) | ((with_reducible refine gD ?_); apply Ed_xs)); rfl; (first | rfl | (refine w_tt ?_; assumption) | (refine w_ff ?_; assumption)); (first | (refine LStep_litOwn (T := Try.tab) (len := 0) rfl rfl rfl rfl rfl rfl rfl rfl rfl rfl ?_ ?_; (refine Nat.le_of_ble_eq_true ?_; rfl); (unfold maxLen; omega)) | (refine LStep_append (T := Try.tab) rfl rfl rfl rfl rfl rfl rfl rfl rfl rfl ?_ ?_ ?_; rfl; (simp only [List.length_map, List.length_append, List.length_nil]; omega); (unfold maxLen; simp only [List.length_map, List.length_append, List.length_nil]; omega)) | (refine LStep_append (T := Try.tab) rfl rfl rfl rfl rfl rfl rfl rfl rfl rfl ?_ ?_ ?_; (simp only [List.length_set]); (simp only [List.length_set, List.length_cons, List.length_nil]; omega); (unfold maxLen; simp only [List.length_set, List.length_cons, List.length_nil]; omega))); rfl) | (((with_reducible refine gS ?_); apply Es_xn); rfl; rfl; (refine LStep_storeE (T := Try.tab) rfl rfl rfl rfl rfl rfl rfl rfl rfl hget ?_; (refine Nat.le_of_ble_eq_true ?_; rfl)); rfl) | (((with_reducible refine gS ?_); apply Es_q); rfl; (first | rfl | (refine w_tt ?_; assumption) | (refine w_ff ?_; assumption)); (first | refine LStep_simp (T := Try.tab) rfl rfl | refine LStep_lenM (T := Try.tab) rfl rfl rfl rfl | (refine LStep_sub rfl rfl rfl rfl ?_; (refine IntWalk.i64_in _ ?_; first | omega | (simp only [cmps] at *; omega))) | (refine LStep_pickT rfl rfl ?_ rfl rfl; assumption) | (refine LStep_pickF rfl rfl ?_ rfl rfl; assumption) | (refine LStep_lit (T := Try.tab) rfl rfl rfl rfl rfl rfl rfl rfl ?_; (refine Nat.le_of_ble_eq_true ?_; rfl)))) | (refine Es_skip rfl ?_ rfl ?_; (first | rfl | (refine w_tf ?_; assumption) | (refine w_ft ?_; assumption))) | (((with_reducible refine gS ?_); apply Es_xs); rfl; rfl; refine LStep_allocN (T := Try.tab) rfl rfl rfl rfl rfl rfl; rfl) | (((with_reducible refine gS ?_); apply Es_xn); rfl; rfl; (refine LStep_storeN (T := Try.tab) rfl rfl rfl rfl rfl rfl rfl ?_ rfl; (refine Nat.le_of_ble_eq_true ?_; rfl)); rfl) | (with_reducible refine Es_nil ?_) | ((with_reducible refine Ed_nil ?_ ?_); kernel_rfl) | (with_reducible refine then_n ?_) | ((with_reducible refine gR ?_); first | refine ret1 rfl ?_ | refine ret2 rfl rfl ?_ | refine ret0 ?_ | refine end1 rfl ?_ | refine end0 ?_))
  all_goals first
    | rfl
    | (rw [e1]; done)
    | trace_state
end Go.Proofs.Ytaejikoicbbeeaa
