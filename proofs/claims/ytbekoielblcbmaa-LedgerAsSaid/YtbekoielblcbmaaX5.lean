import Derived.Test.YtbekoielblcbmaaX4
namespace Go.Proofs.Ytbekoielblcbmaa
open Go.SL
/-! ### the example -/
def bsA : ByteArray := ⟨#[97]⟩
def bsB : ByteArray := ⟨#[98]⟩
def bsH : ByteArray := ⟨#[104]⟩
def bsX : ByteArray := ⟨#[120]⟩
def bsE : ByteArray := ⟨#[69, 85, 82]⟩
def exL : List Ent := [⟨bsA, bsE, 30⟩, ⟨bsB, bsE, -30⟩]
def ex1 : Led := (openS Led0 bsA bsE 0).1
def ex2 : Led := (openS ex1 bsB bsE (-100)).1
def ex3 : Led := enterS ex2 bsX exL
def ex4 : Led := holdS ex3 bsH bsA bsE 20
def ex5 : Led := takeS ex4 bsH bsB 5
theorem exStates : ∃ s1 s2 s3 s4 s5 : Led, (openS Led0 bsA bsE 0).1 = s1 ∧ (openS Led0 bsA bsE 0).2 = 0 ∧ (openS s1 bsB bsE (-100)).1 = s2 ∧ (openS s1 bsB bsE (-100)).2 = 0 ∧ postE s2 bsX exL = 0 ∧ enterS s2 bsX exL = s3 ∧ s2.P.length = 0 ∧ holdE s3 bsH bsA bsE 20 = 0 ∧ holdS s3 bsH bsA bsE 20 = s4 ∧ frS s4 (bsA, bsE) = 10 ∧ (aget (bsA, bsE) s4.A).isSome = true
    ∧ takeE s4 bsH bsB 5 = 0 ∧ takeS s4 bsH bsB 5 = s5 ∧ balS s5 (bsA, bsE) = 25 ∧ mvals s5.H = [⟨bsH, bsA, bsE, 15⟩] ∧ totS s5 bsE = 0 := by
  refine ⟨ex1, ex2, ex3, ex4, ex5, rfl, ?_, rfl, ?_, ?_, rfl, ?_, ?_, rfl, ?_, ?_, ?_, rfl, ?_, ?_, ?_⟩
  all_goals kernel_rfl
section
variable {P : Program} {O : Org} {env : Env} {h : Hp} {o : Oper} {x : Operand}
theorem run_eqlNilP {t e : TypeId} (hT : P.underlying t = some (.pointer e)) (w : World) (a : Addr) : (Op.equal t (.pointer (some a)) (.pointer none)).run P w = .ok false w := by
  unfold Op.equal
  rw [show Op.maxDepth = 9999 + 1 from rfl, Op.equalIn]
  simp only [Sem.run_bind, run_underlying hT, Result.andThen_ok]
  simp
theorem lstep_eqNilP {T : Tab P} {tt yt id q e : Nat} (ho : o.op = .binOp .eql tt x (.const (.pointer none)) yt) (hd : dstOk o.dst O.nt = true) (hT : T.desc tt = some (.ptr e)) (hx : evalA env x = .ptr id q) : LStep P O o env h [] [] (.d (.sc (.bool false))) [] := by
  refine .quiet hd (fun env' h' he hTs a w G r => ?_)
  have h1 := evalA_rep r.env x
  rw [he x (by simp [ho, Op.operands]), hx] at h1
  generalize hv : a.eval x = v at h1
  cases h1 with
  | ptr _ _ b hb =>
    refine ⟨.bool false, ?_, .d _ _ (.sc _ rfl)⟩
    have hy : a.eval (.const (.pointer none)) = .pointer none := rfl
    simp [execOp, ho, hv, hy, eqGuard, binOp, run_eqlNilP (P := P) (T.desc_ok hT) w]
end
set_option maxRecDepth 10000 in
set_option maxHeartbeats 4000000 in
theorem awake_ac : AC Try.prog 10 [] [] [] (fun r _ => r = .d (.sc (.bool true))) := by
  obtain ⟨s1, s2, s3, s4, s5, e1, f1, e2, f2, f3, e3, f4, f5, e4, f6, f7, f8, e5, f9, f10, f11⟩ := exStates
  have cn := ledgerNew_ac ⟨#[107]⟩
  have o1 : s1.Ok := e1 ▸ openS_ok Led0_ok _ _ _
  have o2 : s2.Ok := e2 ▸ openS_ok o1 _ _ _
  have o3 : s3.Ok := e3 ▸ enterS_ok o2 _ _ (by omega)
  have o4 : s4.Ok := e4 ▸ holdS_ok o3 _ _ _ _
  have o5 : s5.Ok := e5 ▸ takeS_ok o4 f8
  have c1 := open_ac Led0 bsA bsE 0 (by simp [Led0])
  rw [e1, f1] at c1
  have c2 := open_ac s1 bsB bsE (-100) (by have := o1.lA; omega)
  rw [e2, f2] at c2
  have c3 := postOk_ac s2 bsX exL o2.nA f3
  rw [e3, f4] at c3
  have c4 := hold_ac s3 bsH bsA bsE 20 (by have := o3.lH; omega)
  rw [e4, f5] at c4
  have c5 := lfree_ac s4 bsA bsE
  rw [f6, f7] at c5
  have c6 := takeOk_ac s4 bsH bsB 5 o4.nA (by decide) (fun q hq => ⟨(o4.hold _ _ hq).2.1, (o4.hold _ _ hq).2.2.2⟩) f8
  rw [e5] at c6
  have c7 := balance_ac s5 bsA bsE
  rw [f9] at c7
  have c8 := holds_ac s5 o5.nH (by have := o5.lH; omega) (by rw [f10]; intro x hx y hy _; simp at hx hy; rw [hx, hy])
  rw [f10, show hsort [⟨bsH, bsA, bsE, 15⟩] = [⟨bsH, bsA, bsE, 15⟩] from by unfold hsort; rw [List.mergeSort_singleton]] at c8
  have c9 := total_ac s5 bsE o5.nA
  rw [f11] at c9
  have p1 : (Led0.P.map Post.enc).length = (s1.P.map Post.enc).length := by rw [← e1, openS_P]
  have p2 : (s1.P.map Post.enc).length = (s2.P.map Post.enc).length := by rw [← e2, openS_P]
  have p3 : (s2.P.map Post.enc).length < (s3.P.map Post.enc).length := by rw [← e3]; exact enter_grows _ _ _
  have p4 : (s3.P.map Post.enc).length = (s4.P.map Post.enc).length := by rw [← e4, holdS_P]
  have p5 : (s4.P.map Post.enc).length < (s5.P.map Post.enc).length := by rw [← e5]; exact take_grows f8
  clear o1 o2 o3 o4 o5 e1 e2 e3 e4 e5 f1 f2 f3 f4 f5 f6 f7 f8 f9 f10 f11
  refine AC_enter Try.func10 rfl Try.ntmps10 (rv := [.tmp 0]) rfl rfl (by simp) (fun w X G => ?_)
  repeat' (first | ((with_reducible refine gA ?_); (first | refine AW_seq ?_ | refine AW_region ?_ | refine AW_condT rfl ?_ | (refine AW_condN rfl ?_ ?_; assumption) | refine AW_ret ?_ | refine AW_skip ?_)) | ((with_reducible refine gS ?_); refine Es_s (T := Try.tab) rfl rfl rfl rfl ?_) | (((with_reducible refine gS ?_); apply Es_q); rfl; (first | rfl | (refine w_tt ?_; assumption) | (refine w_ff ?_; assumption)); refine lstep_eqNilP (T := Try.tab) rfl rfl rfl rfl) | (((with_reducible refine gS ?_); apply Es_xg); rfl; (first | rfl | (refine w_tt ?_; assumption) | (refine w_ff ?_; assumption)); (first | refine LStep_callHN [] [(6, 9), (3, 9001), (2000, 9002), (4, 9003)] cn rfl rfl trivial rfl trivial rfl rfl | refine LStep_callHN [(1000, 9), (1001, 9001), (1002, 9002), (1003, 9003)] [] c1 rfl rfl ⟨rfl, rfl, rfl, rfl, trivial⟩ rfl ⟨trivial, trivial, p1, trivial, trivial⟩ rfl rfl | refine LStep_callHN [(1000, 9), (1001, 9001), (1002, 9002), (1003, 9003)] [] c2 rfl rfl ⟨rfl, rfl, rfl, rfl, trivial⟩ rfl ⟨trivial, trivial, p2, trivial, trivial⟩ rfl rfl | refine LStep_callGN [1002] [(1000, 9), (1001, 9001), (1002, 9002), (1003, 9003)] [] c3 rfl rfl ⟨rfl, rfl, rfl, rfl, trivial⟩ rfl ⟨trivial, trivial, p3, trivial, trivial⟩ rfl rfl | refine LStep_callHN [(1000, 9), (1001, 9001), (1002, 9002), (1003, 9003)] [] c4 rfl rfl ⟨rfl, rfl, rfl, rfl, trivial⟩ rfl ⟨trivial, trivial, p4, trivial, trivial⟩ rfl rfl | refine LStep_callHN [(1000, 9), (1001, 9001), (1002, 9002), (1003, 9003)] [] c5 rfl rfl ⟨rfl, rfl, rfl, rfl, trivial⟩ rfl ⟨trivial, trivial, rfl, trivial, trivial⟩ rfl rfl | refine LStep_callGN [1002] [(1000, 9), (1001, 9001), (1002, 9002), (1003, 9003)] [] c6 rfl rfl ⟨rfl, rfl, rfl, rfl, trivial⟩ rfl ⟨trivial, trivial, p5, trivial, trivial⟩ rfl rfl | refine LStep_callHN [(1000, 9), (1001, 9001), (1002, 9002), (1003, 9003)] [] c7 rfl rfl ⟨rfl, rfl, rfl, rfl, trivial⟩ rfl ⟨trivial, trivial, rfl, trivial, trivial⟩ rfl rfl | refine LStep_callHN [(1000, 9), (1001, 9001), (1002, 9002), (1003, 9003)] [] c8 rfl rfl ⟨rfl, rfl, rfl, rfl, trivial⟩ rfl ⟨trivial, trivial, rfl, trivial, trivial⟩ rfl rfl | refine LStep_callHN [(1000, 9), (1001, 9001), (1002, 9002), (1003, 9003)] [] c9 rfl rfl ⟨rfl, rfl, rfl, rfl, trivial⟩ rfl ⟨trivial, trivial, rfl, trivial, trivial⟩ rfl rfl); rfl) | (((with_reducible refine gS ?_); apply Es_q); rfl; (first | rfl | (refine w_tt ?_; assumption) | (refine w_ff ?_; assumption)); (first | refine LStep_simp (T := Try.tab) rfl rfl | refine LStep_lenM (T := Try.tab) rfl rfl rfl rfl | (refine LStep_pickT rfl rfl ?_ rfl rfl; assumption) | (refine LStep_pickF rfl rfl ?_ rfl rfl; assumption) | (refine LStep_index (T := Try.tab) (c := ?_) rfl rfl rfl rfl rfl rfl ?_ ?_; rotate_left; omega; (first | assumption | rfl)) | (refine LStep_lit (T := Try.tab) rfl rfl rfl rfl rfl rfl rfl rfl ?_; (refine Nat.le_of_ble_eq_true ?_; rfl)) | refine LStep_buildN (T := Try.tab) rfl rfl rfl rfl rfl rfl rfl)) | (refine Es_skip rfl ?_ rfl ?_; (first | rfl | (refine w_tf ?_; assumption) | (refine w_ft ?_; assumption))) | (refine Es_split rfl ?_ (fun _ => ?_) (fun _ => ?_); ((fail_if_success (refine und_t ?_; assumption)); (fail_if_success (refine und_f ?_; assumption)); exact trivial)) | (with_reducible refine Es_nil ?_) | (with_reducible refine then_n ?_) | (with_reducible refine then_r ?_) | ((with_reducible refine gR ?_); first | refine ret1 rfl ?_ | refine ret2 rfl rfl ?_ | refine ret0 ?_ | refine end1 rfl ?_ | refine end0 ?_))
  all_goals clear cn c1 c2 c3 c4 c5 c6 c7 c8 c9 p1 p2 p3 p4 p5
  all_goals first
    | rfl
    | (simp [eqb]; done)
    | (exfalso; simp [eqb] at *; done)
end Go.Proofs.Ytbekoielblcbmaa
