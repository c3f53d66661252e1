import Derived.Test.YtofdnkgieigncaaGreatTD
import Derived.Test.YtofdnkgieigncaaGreatTB
import Derived.Test.YtofdnkgieigncaaGreatTX
import Derived.Test.YtofdnkgieigncaaGreatTP
namespace Go.Proofs.YtofdnkgieigncaaGreat
open Go.SL

/-! ### TopMail -/
theorem lstep_remT {P : Program} {O : Org} {env : Env} {h : Hp} {o : Oper} {t yt : Nat} {x y : Operand} {k : IntKind} {m n q : Int} (ho : o.op = .binOp .rem t x y yt) (hx : evalA env x = .d (.sc (.int k m))) (hy : evalA env y = .d (.sc (.int k n))) (hn : n ≠ 0) (hq : m.tmod n = q) (hd : dstOk o.dst O.nt = true) :
    LStep P O o env h [] [] (.d (.sc (.int k q))) [] := by
  subst hq
  refine .quiet hd (fun env' h' he _ a w G r => ?_)
  have h1 := evalA_rep r.env x
  have h2 := evalA_rep r.env y
  rw [he x (by simp [ho, Op.operands]), hx] at h1
  rw [he y (by simp [ho, Op.operands]), hy] at h2
  exact ⟨.int k (m.tmod n), by simp [execOp, ho, h1.sc_inv, h2.sc_inv, eqGuard, binOp, Op.intDiv, hn], .d _ _ (.sc _ rfl)⟩
theorem lstep_fitT {P : Program} {T : Tab P} {O : Org} {env : Env} {h : Hp} {o : Oper} {av av' : AV} {Ts : List Nat} (hd : dstOk o.dst O.nt = true) (hs : simp1 T env h o.op = some (av, Ts)) (he : av = av') : LStep P O o env h Ts [] av' [] := he ▸ LStep_simp1 hd hs
def kYT : K2 := (⟨#[121]⟩, mUSD)
def kVT : K2 := (⟨#[118, 111, 115, 116, 114, 111, 58, 98]⟩, mUSD)
def kNT : K2 := (⟨#[110, 111, 115, 116, 114, 111, 58, 97]⟩, mUSD)
def kST : K2 := (⟨#[115]⟩, mUSD)
def l0T : Led := ⟨[], [], []⟩
theorem openT1 : openS l0T kYT.1 mUSD (-1099511627776) = (⟨[(kYT, ⟨-1099511627776, 0, 0⟩)], [], []⟩, 0) := by kernel_rfl
theorem openT2 : openS ⟨[(kYT, ⟨-1099511627776, 0, 0⟩)], [], []⟩ kVT.1 mUSD (-1099511627776) = (⟨[(kYT, ⟨-1099511627776, 0, 0⟩), (kVT, ⟨-1099511627776, 0, 0⟩)], [], []⟩, 0) := by kernel_rfl
theorem openT3 : openS l0T kST.1 mUSD (-1099511627776) = (⟨[(kST, ⟨-1099511627776, 0, 0⟩)], [], []⟩, 0) := by kernel_rfl
theorem openT4 : openS ⟨[(kST, ⟨-1099511627776, 0, 0⟩)], [], []⟩ kNT.1 mUSD (-1099511627776) = (⟨[(kST, ⟨-1099511627776, 0, 0⟩), (kNT, ⟨-1099511627776, 0, 0⟩)], [], []⟩, 0) := by kernel_rfl
/-- two accounts, between which was paid -/
structure PairL (p q : K2) (s : Led) (S : Int) : Prop where
  flat : Flat s.A S
  hp : aget p s.A ≠ none
  hq : aget q s.A ≠ none
  bp : balA s.A p = -S
  bq : balA s.A q = S
theorem PairL.post {p q : K2} {s : Led} {S : Int} (h : PairL p q s S) (h0 : 0 ≤ S) (hpq : p ≠ q) (h2 : p.2 = q.2) {x : Int} (hx : 0 ≤ x) (hb : S + x ≤ 1099511627776) (t : ByteArray) (ht : t.size ≤ 4096) (hP : s.P.length < 4096) : postE s t (payX p q x) = 0 :=
  h.flat.post h0 h.hp h.hq hpq h2 hx hb t ht hP
theorem PairL.pay {p q : K2} {s : Led} {S : Int} (h : PairL p q s S) (h0 : 0 ≤ S) (hpq : p ≠ q) {x : Int} (hx : 0 ≤ x) (hb : S + x ≤ 1099511627776) (t : ByteArray) : PairL p q (enterS s t (payX p q x)) (S + x) := by
  have hqp : q ≠ p := fun e => hpq e.symm
  refine ⟨h.flat.enter h0 hpq hx hb, fun e => h.hp (enter_none.1 e), fun e => h.hq (enter_none.1 e), ?_, ?_⟩
  · show balA (enterA (chgL (payX p q x)) s.A) p = _
    rw [h.flat.balE h0 hx hb h.hp, h.bp, if_pos rfl, if_neg hqp]; omega
  · show balA (enterA (chgL (payX p q x)) s.A) q = _
    rw [h.flat.balE h0 hx hb h.hq, h.bq, if_neg hpq, if_pos rfl]; omega
theorem flat0 {A : List (K2 × Acc)} (h1 : (akeys A).Nodup) (h2 : ∀ p ∈ A, p.2.floor = -1099511627776 ∧ p.2.held = 0 ∧ p.2.bal = 0) : Flat A 0 :=
  ⟨h1, fun k a h => by obtain ⟨a1, a2, a3⟩ := h2 (k, a) (aget_mem h); exact ⟨a1, a2, by rw [a3]; omega, by rw [a3]; omega⟩⟩
def ledA0 : Led := ⟨[(kYT, ⟨-1099511627776, 0, 0⟩), (kVT, ⟨-1099511627776, 0, 0⟩)], [], []⟩
def ledB0 : Led := ⟨[(kST, ⟨-1099511627776, 0, 0⟩), (kNT, ⟨-1099511627776, 0, 0⟩)], [], []⟩
theorem ledA0_ok : PairL kYT kVT ledA0 0 := ⟨flat0 (by decide +kernel) (by decide +kernel), by decide +kernel, by decide +kernel, by decide +kernel, by decide +kernel⟩
theorem ledB0_ok : PairL kNT kST ledB0 0 := ⟨flat0 (by decide +kernel) (by decide +kernel), by decide +kernel, by decide +kernel, by decide +kernel, by decide +kernel⟩
theorem kYVT : kYT ≠ kVT := of_decide_eq_true (by kernel_rfl)
theorem kNST : kNT ≠ kST := of_decide_eq_true (by kernel_rfl)
def hA4T (s : Led) : Hp := [(4000, some (.cells [.mp 4001, .own 4002 (s.P.map Post.enc).length, .mp 4003])), (4001, some (.map 96 98 (emap k2V aV s.A) none)), (4002, some (.arr 121 3 (s.P.map Post.enc))), (4003, some (.map 9 299 (emap sV hV s.H) none))]
def hB5T (s : Led) : Hp := [(5000, some (.cells [.mp 5001, .own 5002 (s.P.map Post.enc).length, .mp 5003])), (5001, some (.map 96 98 (emap k2V aV s.A) none)), (5002, some (.arr 121 3 (s.P.map Post.enc))), (5003, some (.map 9 299 (emap sV hV s.H) none))]
def ltX : Lt := ⟨⟨#[]⟩, ⟨#[]⟩, 0, 27, 0, ⟨#[]⟩, ⟨#[]⟩, ⟨#[]⟩, 0, 0, mUSD, 1, [], []⟩
theorem remS_extra (l : List Lt) : remS mUSD (l ++ [ltX]) = remS mUSD l + 1 := by
  rw [remS_snoc, if_pos (by simp [remB, ltX])]
  rfl
theorem mlT_ok (i x : Int) : (mlT i x).Ok := ⟨by simp [mlT], by simp [mlT], by simp [mlT]⟩
def tOut : ByteArray := ⟨#[111, 117, 116]⟩
def tIn : ByteArray := ⟨#[105, 110]⟩
structure MailSt (n k : Nat) (sa sb : Led) (se go ml : List Lt) (S B : Int) : Prop where
  hk : k ≤ n
  a : PairL kYT kVT sa S
  pa : PostsIn sa.P
  la : sa.P.length = k
  b : PairL kNT kST sb B
  lb : sb.P.length ≤ k
  m : MailIn k se go ml S B
set_option maxRecDepth 20000 in
set_option maxHeartbeats 8000000 in
theorem topMail_ac (ams : List Nat) (come : List Bool) (hla : ams.length ≤ 140737488351232) (hlc : come.length ≤ 140737488351232) (hs : ∀ n ∈ ams, n < 65536) :
    AC Tryz.prog 3 [.d (.sl 1 (ams.map (uT .u16))), .d (.sl 1 (come.map bT))] [] [] (fun r _ => r = .d (.sc (.bool true))) := by
  by_cases hfew : ams.length ≤ 12 ∧ 0 < come.length
  rotate_left
  · refine AC_enter Tryz.func3 rfl Tryz.ntmps3 (rv := [.tmp 4]) rfl rfl (by simp) (fun w X G => ?_)
    repeat' (first | ((with_reducible refine gA ?_); (first | refine AW_seq ?_ | refine AW_region ?_ | refine AW_condT rfl ?_ | (refine AW_cond rfl (fun hc => ?_) (fun hc => ?_) <;> try (exfalso; simp only [cmpL] at hc; omega)) | refine AW_ret ?_ | refine AW_skip ?_)) | ((with_reducible refine gS ?_); refine Es_s (T := Tryz.tab) rfl rfl rfl rfl ?_) | (((with_reducible refine gS ?_); apply Es_q); rfl; (first | rfl | (refine w_ff ?_; assumption)); refine LStep_call (nets_ac) rfl rfl rfl rfl) | (((with_reducible refine gS ?_); apply Es_q); rfl; (first | rfl | (refine w_ff ?_; assumption)); (first | refine LStep_simp (T := Tryz.tab) rfl rfl | refine LStep_lenM (T := Tryz.tab) rfl rfl rfl rfl | (refine LStep_pickT rfl rfl ?_ rfl rfl; assumption) | (refine LStep_pickF rfl rfl ?_ rfl rfl; assumption))) | (refine Es_skip rfl ?_ rfl ?_; (first | rfl | (refine w_tf ?_; assumption) | (refine w_ft ?_; assumption))) | (refine Es_split rfl ?_ (fun _ => ?_) (fun _ => ?_); ((fail_if_success (refine und_t ?_; assumption)); (fail_if_success (refine und_f ?_; assumption)); exact trivial)) | (with_reducible refine Es_nil ?_) | (with_reducible refine then_n ?_) | (with_reducible refine then_r ?_) | ((with_reducible refine gR ?_); first | refine ret1 rfl ?_ | refine ret2 rfl rfl ?_ | refine ret0 ?_ | refine end1 rfl ?_ | refine end0 ?_))
    all_goals simp only [cmps] at *
    all_goals first
      | rfl
      | (exfalso; omega)
      | trace_state
  obtain ⟨hf1, hf2⟩ := hfew
  have hcl : 0 < come.length := hf2
  have n1 := ledgerNew_ac ⟨#[97]⟩
  have n2 := ledgerNew_ac ⟨#[98]⟩
  have o1 := open_ac l0T kYT.1 mUSD (-1099511627776) (by simp [l0T])
  rw [openT1] at o1
  have o2 := open_ac ⟨[(kYT, ⟨-1099511627776, 0, 0⟩)], [], []⟩ kVT.1 mUSD (-1099511627776) (by simp)
  rw [openT2] at o2
  have o3 := open_ac l0T kST.1 mUSD (-1099511627776) (by simp [l0T])
  rw [openT3] at o3
  have o4 := open_ac ⟨[(kST, ⟨-1099511627776, 0, 0⟩)], [], []⟩ kNT.1 mUSD (-1099511627776) (by simp)
  rw [openT4] at o4
  refine AC_enter Tryz.func3 rfl Tryz.ntmps3 (rv := [.tmp 4]) rfl rfl (by simp) (fun w X G => ?_)
  repeat' (first | ((with_reducible refine gA ?_); (first | refine AW_seq ?_ | refine AW_region ?_ | refine AW_condT rfl ?_ | refine AW_condF rfl ?_ | (refine AW_cond rfl (fun hc => ?_) (fun hc => ?_) <;> try (exfalso; simp only [cmpL] at hc; omega)) | refine AW_block ?_ | refine AW_ret ?_ | refine AW_skip ?_)) | (((with_reducible refine gS ?_); apply Es_q); rfl; (first | rfl | (refine w_ff ?_; assumption)); refine LStep_neqF rfl rfl rfl rfl rfl) | ((with_reducible refine gS ?_); refine Es_s (T := Tryz.tab) rfl rfl rfl rfl ?_) | (((with_reducible refine gS ?_); apply Es_q); rfl; (first | rfl | (refine w_ff ?_; assumption)); (first | refine LStep_call (nets_ac) rfl rfl rfl rfl | refine LStep_eqNilP (T := Tryz.tab) rfl rfl rfl rfl)) | (((with_reducible refine gS ?_); apply Es_xg); rfl; (first | rfl | (refine w_ff ?_; assumption)); (first | refine LStep_callHN [] [(6, 4000), (3, 4001), (2000, 4002), (4, 4003)] n1 rfl rfl trivial rfl trivial rfl rfl | refine LStep_callHN [] [(6, 5000), (3, 5001), (2000, 5002), (4, 5003)] n2 rfl rfl trivial rfl trivial rfl rfl | refine LStep_callHN [(1000, 4000), (1001, 4001), (1002, 4002), (1003, 4003)] [] o1 rfl rfl ⟨rfl, rfl, rfl, rfl, trivial⟩ rfl ⟨trivial, trivial, rfl, trivial, trivial⟩ rfl rfl | refine LStep_callHN [(1000, 4000), (1001, 4001), (1002, 4002), (1003, 4003)] [] o2 rfl rfl ⟨rfl, rfl, rfl, rfl, trivial⟩ rfl ⟨trivial, trivial, rfl, trivial, trivial⟩ rfl rfl | refine LStep_callHN [(1000, 5000), (1001, 5001), (1002, 5002), (1003, 5003)] [] o3 rfl rfl ⟨rfl, rfl, rfl, rfl, trivial⟩ rfl ⟨trivial, trivial, rfl, trivial, trivial⟩ rfl rfl | refine LStep_callHN [(1000, 5000), (1001, 5001), (1002, 5002), (1003, 5003)] [] o4 rfl rfl ⟨rfl, rfl, rfl, rfl, trivial⟩ rfl ⟨trivial, trivial, rfl, trivial, trivial⟩ rfl rfl); rfl) | (((with_reducible refine gS ?_); apply Es_q); rfl; (first | rfl | (refine w_ff ?_; assumption)); (first | refine LStep_simp (T := Tryz.tab) rfl rfl | refine LStep_lenM (T := Tryz.tab) rfl rfl rfl rfl | (refine LStep_pickT rfl rfl ?_ rfl rfl; assumption) | (refine LStep_pickF rfl rfl ?_ rfl rfl; assumption))) | (refine Es_skip rfl ?_ rfl ?_; (first | rfl | (refine w_tf ?_; assumption) | (refine w_ft ?_; assumption))) | (refine Es_split rfl ?_ (fun _ => ?_) (fun _ => ?_); ((fail_if_success (refine und_t ?_; assumption)); (fail_if_success (refine und_f ?_; assumption)); exact trivial)) | (with_reducible refine Es_nil ?_) | (with_reducible refine then_n ?_) | (with_reducible refine then_r ?_) | ((with_reducible refine gR ?_); first | refine ret1 rfl ?_ | refine ret2 rfl rfl ?_ | refine ret0 ?_ | refine end1 rfl ?_ | refine end0 ?_))
  all_goals simp only [cmps] at *
  all_goals first
    | (exfalso; omega)
    | skip
  clear n1 n2 o1 o2 o3 o4
  refine AW_openNil (t := 7) (id := 2500) (e := 40) (sz := 14) rfl rfl rfl rfl ?_
  refine AW_openNil (t := 8) (id := 2501) (e := 40) (sz := 14) rfl rfl rfl rfl ?_
  refine AW_forE (S := Nat × (Led × Led) × (List Lt × List Lt × List Lt) × (Int × Int)) (fun t => MailSt ams.length t.1 t.2.1.1 t.2.1.2 t.2.2.1.1 t.2.2.1.2.1 t.2.2.1.2.2 t.2.2.2.1 t.2.2.2.2)
    (fun t => [(65, .d (.sc (.int .i64 (t.1 : Nat)))), (7, .own 2500 (t.2.2.1.1.map Lt.enc).length), (8, .own 2501 (t.2.2.1.2.1.map Lt.enc).length)])
    (fun t => hA4T t.2.1.1 ++ (hB5T t.2.1.2 ++ [(2500, some (.arr 40 14 (t.2.2.1.1.map Lt.enc))), (2501, some (.arr 40 14 (t.2.2.1.2.1.map Lt.enc)))])) (fun t => ams.length - t.1)
    (0, (ledA0, ledB0), ([], [], []), (0, 0)) ⟨by omega, ledA0_ok, by intro i p hp; simp [ledA0] at hp, rfl, ledB0_ok, by simp [ledB0], MailIn.zero⟩ (by (repeat' (first | exact trivial | exact rfl | (refine ⟨Or.inl rfl, ?_⟩) | (refine ⟨Or.inr rfl, ?_⟩) | (refine ⟨Or.inr trivial, ?_⟩) | (refine ⟨rfl, ?_⟩) | (refine ⟨?_, ?_⟩)))) (by (repeat' (first | exact trivial | exact rfl | (refine ⟨Or.inl rfl, ?_⟩) | (refine ⟨Or.inr rfl, ?_⟩) | (refine ⟨Or.inr trivial, ?_⟩) | (refine ⟨rfl, ?_⟩) | (refine ⟨?_, ?_⟩)))) ?_
  rintro ⟨k, ⟨sa, sb⟩, ⟨se, go, ml⟩, ⟨S, B⟩⟩ hI
  dsimp only at hI ⊢
  have hk := hI.hk
  obtain ⟨b0, b1, b2⟩ := hI.m.bnd
  have hlen := hI.m.len
  have hcnt := hI.m.cnt
  by_cases hlt : k < ams.length
  · obtain ⟨n, hn, _⟩ := drop_at hlt
    have hx := hs n (List.mem_of_getElem? hn)
    have hneg : AV.d (.sc (.int .i64 (wrp .i64 (0 - (n : Int))))) = .d (.sc (.int .i64 (-(n : Int)))) := by rw [wrp_fit (by omega), Int.zero_sub]
    have ea := hI.a.post (by omega) kYVT rfl (show (0 : Int) ≤ (n : Int) by omega) (by omega) tOut (by decide) (by have := hI.la; omega)
    have cpa := postOk_ac sa tOut (payX kYT kVT (n : Int)) hI.a.flat.nd ea
    have hga := enter_grows sa tOut (payX kYT kVT (n : Int))
    have hA' := hI.a.pay (by omega) kYVT (show (0 : Int) ≤ (n : Int) by omega) (by omega) tOut
    have hP' : PostsIn (enterS sa tOut (payX kYT kVT (n : Int))).P := hI.pa.snoc tOut (by simp [payX])
    have hl' : (enterS sa tOut (payX kYT kVT (n : Int))).P.length = k + 1 := by simp [enterS, hI.la]
    generalize enterS sa tOut (payX kYT kVT (n : Int)) = sa' at *
    clear ea
    have e1 : ((k : Nat) : Int).tmod ((come.length : Nat) : Int) = ((k % come.length : Nat) : Int) := rfl
    have hmod : k % come.length < come.length := Nat.mod_lt _ hcl
    obtain ⟨b, hb, _⟩ := drop_at hmod
    have hlb : (come.map bT).length = come.length := by simp
    cases b with
    | true =>
      have eb := hI.b.post b0 kNST rfl (show (0 : Int) ≤ (n : Int) by omega) (by omega) tIn (by decide) (by have := hI.lb; omega)
      have cpb := postOk_ac sb tIn (payX kNT kST (n : Int)) hI.b.flat.nd eb
      have hgb := enter_grows sb tIn (payX kNT kST (n : Int))
      have hB' := hI.b.pay b0 kNST (show (0 : Int) ≤ (n : Int) by omega) (by omega) tIn
      have hlb' : (enterS sb tIn (payX kNT kST (n : Int))).P.length ≤ k + 1 := by have := hI.lb; simp [enterS]; omega
      generalize enterS sb tIn (payX kNT kST (n : Int)) = sb' at *
      have hM' := hI.m.got (v := (n : Int)) (by omega)
      clear eb
      repeat' (first | ((with_reducible refine gA ?_); (first | refine AW_seq ?_ | refine AW_region ?_ | refine AW_condF rfl ?_ | (refine AW_cond rfl (fun hc => ?_) (fun hc => ?_) <;> try (exfalso; simp only [cmpL] at hc; omega)) | refine AW_block ?_ | refine AW_skip ?_)) | (((with_reducible refine gS ?_); apply Es_q); rfl; rfl; (first | refine lstep_fitT (T := Tryz.tab) rfl rfl hneg | refine LStep_neqF rfl rfl rfl rfl rfl | refine LStep_buildC (T := Tryz.tab) (out' := [_, _, _, _, _, _, _, _, _, _, _, _, .d (.sl 4 []), .d (.sl 1 [])]) rfl rfl rfl rfl rfl rfl ⟨.refl _, .refl _, .refl _, .refl _, .refl _, .refl _, .refl _, .refl _, .refl _, .refl _, .refl _, .refl _, .nil 4, .nil 1, trivial⟩)) | ((with_reducible refine gS ?_); refine Es_s (T := Tryz.tab) rfl rfl rfl rfl ?_) | (((with_reducible refine gS ?_); apply Es_q); rfl; rfl; (refine lstep_remT rfl rfl rfl ?_ e1 rfl; omega)) | (((with_reducible refine gS ?_); apply Es_xs); rfl; rfl; (refine LStep_append (T := Tryz.tab) rfl rfl rfl rfl rfl rfl rfl rfl rfl rfl ?_ ?_ ?_; rfl; (simp only [List.length_append, List.length_map, List.length_cons, List.length_nil]; omega); (unfold maxLen; simp only [List.length_append, List.length_map, List.length_cons, List.length_nil]; omega)); rfl) | (((with_reducible refine gS ?_); apply Es_xg); rfl; rfl; (first | refine LStep_callGN [1002] [(1000, 4000), (1001, 4001), (1002, 4002), (1003, 4003)] [] cpa rfl rfl ⟨rfl, rfl, rfl, rfl, trivial⟩ rfl ⟨trivial, trivial, hga, trivial, trivial⟩ rfl rfl | refine LStep_callGN [1002] [(1000, 5000), (1001, 5001), (1002, 5002), (1003, 5003)] [] cpb rfl rfl ⟨rfl, rfl, rfl, rfl, trivial⟩ rfl ⟨trivial, trivial, hgb, trivial, trivial⟩ rfl rfl); rfl) | (((with_reducible refine gS ?_); apply Es_q); rfl; rfl; (first | refine LStep_lenM (T := Tryz.tab) rfl rfl rfl rfl | (refine LStep_add rfl rfl rfl rfl ?_; (refine IntWalk.i64_in _ ?_; first | omega | (simp only [cmps] at *; omega))) | (refine LStep_conv (T := Tryz.tab) rfl rfl rfl rfl rfl ?_; (refine IntWalk.i64_in _ ?_; first | omega | (simp only [cmps] at *; omega))) | (refine LStep_indexM (T := Tryz.tab) (c := ?_) rfl rfl rfl rfl rfl rfl ?_; rotate_left; assumption) | (refine LStep_lit (T := Tryz.tab) rfl rfl rfl rfl rfl rfl rfl rfl ?_; (refine Nat.le_of_ble_eq_true ?_; rfl)) | refine LStep_buildN (T := Tryz.tab) rfl rfl rfl rfl rfl rfl rfl)) | (refine Es_skip rfl ?_ rfl ?_; (first | rfl | (refine w_tf ?_; assumption) | (refine w_ft ?_; assumption))) | (((with_reducible refine gS ?_); apply Es_xs); rfl; rfl; refine LStep_allocN (T := Tryz.tab) rfl rfl rfl rfl rfl rfl; rfl) | (((with_reducible refine gS ?_); apply Es_xn); rfl; rfl; (refine LStep_storeN (T := Tryz.tab) rfl rfl rfl rfl rfl rfl rfl ?_ rfl; (refine Nat.le_of_ble_eq_true ?_; rfl)); rfl) | (with_reducible refine Es_nil ?_) | (with_reducible refine then_n ?_) | (with_reducible refine block_n ?_))
      all_goals simp only [cmps] at *
      all_goals first
        | (exfalso; omega)
        | skip
      refine ⟨(k + 1, (sa', sb'), (se ++ [mlT ((k : Int) + 1) n], go ++ [mlT ((k : Int) + 1) n], ml), (S + n, B + n)), ⟨by omega, hA', hP', hl', hB', hlb', hM'⟩, by dsimp only; omega, ?_, by (repeat' (first | exact trivial | exact rfl | (refine ⟨Or.inl rfl, ?_⟩) | (refine ⟨Or.inr rfl, ?_⟩) | (refine ⟨Or.inr trivial, ?_⟩) | (refine ⟨rfl, ?_⟩) | (refine ⟨?_, ?_⟩))), ?_, by (repeat' (first | exact trivial | exact rfl | (refine ⟨Or.inl rfl, ?_⟩) | (refine ⟨Or.inr rfl, ?_⟩) | (refine ⟨Or.inr trivial, ?_⟩) | (refine ⟨rfl, ?_⟩) | (refine ⟨?_, ?_⟩)))⟩
      · dsimp only; rw [List.map_append, List.map_append]; (repeat' (first | exact trivial | exact rfl | (refine ⟨Or.inl rfl, ?_⟩) | (refine ⟨Or.inr rfl, ?_⟩) | (refine ⟨Or.inr trivial, ?_⟩) | (refine ⟨rfl, ?_⟩) | (refine ⟨?_, ?_⟩)))
      · dsimp only; rw [List.map_append, List.map_append]; (repeat' (first | exact trivial | exact rfl | (refine ⟨Or.inl rfl, ?_⟩) | (refine ⟨Or.inr rfl, ?_⟩) | (refine ⟨Or.inr trivial, ?_⟩) | (refine ⟨rfl, ?_⟩) | (refine ⟨?_, ?_⟩)))
    | false =>
      have hM' := hI.m.lost (v := (n : Int)) (by omega)
      repeat' (first | ((with_reducible refine gA ?_); (first | refine AW_seq ?_ | refine AW_region ?_ | refine AW_condT rfl ?_ | refine AW_condF rfl ?_ | (refine AW_cond rfl (fun hc => ?_) (fun hc => ?_) <;> try (exfalso; simp only [cmpL] at hc; omega)) | refine AW_block ?_ | refine AW_skip ?_ | refine AW_exit ?_)) | (((with_reducible refine gS ?_); apply Es_q); rfl; rfl; (first | refine lstep_fitT (T := Tryz.tab) rfl rfl hneg | refine LStep_neqF rfl rfl rfl rfl rfl | refine LStep_buildC (T := Tryz.tab) (out' := [_, _, _, _, _, _, _, _, _, _, _, _, .d (.sl 4 []), .d (.sl 1 [])]) rfl rfl rfl rfl rfl rfl ⟨.refl _, .refl _, .refl _, .refl _, .refl _, .refl _, .refl _, .refl _, .refl _, .refl _, .refl _, .refl _, .nil 4, .nil 1, trivial⟩)) | ((with_reducible refine gS ?_); refine Es_s (T := Tryz.tab) rfl rfl rfl rfl ?_) | (((with_reducible refine gS ?_); apply Es_q); rfl; rfl; (refine lstep_remT rfl rfl rfl ?_ e1 rfl; omega)) | (((with_reducible refine gS ?_); apply Es_xs); rfl; rfl; (refine LStep_append (T := Tryz.tab) rfl rfl rfl rfl rfl rfl rfl rfl rfl rfl ?_ ?_ ?_; rfl; (simp only [List.length_append, List.length_map, List.length_cons, List.length_nil]; omega); (unfold maxLen; simp only [List.length_append, List.length_map, List.length_cons, List.length_nil]; omega)); rfl) | (((with_reducible refine gS ?_); apply Es_xg); rfl; rfl; refine LStep_callGN [1002] [(1000, 4000), (1001, 4001), (1002, 4002), (1003, 4003)] [] cpa rfl rfl ⟨rfl, rfl, rfl, rfl, trivial⟩ rfl ⟨trivial, trivial, hga, trivial, trivial⟩ rfl rfl; rfl) | (((with_reducible refine gS ?_); apply Es_q); rfl; rfl; (first | refine LStep_lenM (T := Tryz.tab) rfl rfl rfl rfl | (refine LStep_add rfl rfl rfl rfl ?_; (refine IntWalk.i64_in _ ?_; first | omega | (simp only [cmps] at *; omega))) | (refine LStep_conv (T := Tryz.tab) rfl rfl rfl rfl rfl ?_; (refine IntWalk.i64_in _ ?_; first | omega | (simp only [cmps] at *; omega))) | (refine LStep_indexM (T := Tryz.tab) (c := ?_) rfl rfl rfl rfl rfl rfl ?_; rotate_left; assumption) | (refine LStep_lit (T := Tryz.tab) rfl rfl rfl rfl rfl rfl rfl rfl ?_; (refine Nat.le_of_ble_eq_true ?_; rfl)) | refine LStep_buildN (T := Tryz.tab) rfl rfl rfl rfl rfl rfl rfl)) | (refine Es_skip rfl ?_ rfl ?_; (first | rfl | (refine w_tf ?_; assumption) | (refine w_ft ?_; assumption))) | (((with_reducible refine gS ?_); apply Es_xs); rfl; rfl; refine LStep_allocN (T := Tryz.tab) rfl rfl rfl rfl rfl rfl; rfl) | (((with_reducible refine gS ?_); apply Es_xn); rfl; rfl; (refine LStep_storeN (T := Tryz.tab) rfl rfl rfl rfl rfl rfl rfl ?_ rfl; (refine Nat.le_of_ble_eq_true ?_; rfl)); rfl) | (with_reducible refine Es_nil ?_) | (with_reducible refine then_n ?_) | (with_reducible refine then_e ?_) | ((with_reducible refine block_e ?_ ?_); rfl))
      all_goals simp only [cmps] at *
      all_goals first
        | (exfalso; omega)
        | skip
      refine ⟨(k + 1, (sa', sb), (se ++ [mlT ((k : Int) + 1) n], go, ml ++ [mlT ((k : Int) + 1) n]), (S + n, B)), ⟨by omega, hA', hP', hl', hI.b, by have := hI.lb; show sb.P.length ≤ k + 1; omega, hM'⟩, by dsimp only; omega, ?_, by (repeat' (first | exact trivial | exact rfl | (refine ⟨Or.inl rfl, ?_⟩) | (refine ⟨Or.inr rfl, ?_⟩) | (refine ⟨Or.inr trivial, ?_⟩) | (refine ⟨rfl, ?_⟩) | (refine ⟨?_, ?_⟩))), ?_, by (repeat' (first | exact trivial | exact rfl | (refine ⟨Or.inl rfl, ?_⟩) | (refine ⟨Or.inr rfl, ?_⟩) | (refine ⟨Or.inr trivial, ?_⟩) | (refine ⟨rfl, ?_⟩) | (refine ⟨?_, ?_⟩)))⟩
      · dsimp only; rw [List.map_append]; (repeat' (first | exact trivial | exact rfl | (refine ⟨Or.inl rfl, ?_⟩) | (refine ⟨Or.inr rfl, ?_⟩) | (refine ⟨Or.inr trivial, ?_⟩) | (refine ⟨rfl, ?_⟩) | (refine ⟨?_, ?_⟩)))
      · dsimp only; rw [List.map_append]; (repeat' (first | exact trivial | exact rfl | (refine ⟨Or.inl rfl, ?_⟩) | (refine ⟨Or.inr rfl, ?_⟩) | (refine ⟨Or.inr trivial, ?_⟩) | (refine ⟨rfl, ?_⟩) | (refine ⟨?_, ?_⟩)))
  · have hkn : k = ams.length := by omega
    have c1 := mail_ac se go (by omega) (by omega) (fun x hx => by obtain ⟨i, v, rfl, _⟩ := hI.m.one x hx; exact mlT_ok i v) (fun x hx => by obtain ⟨i, v, rfl, _⟩ := hI.m.one x (hI.m.sub x hx); exact mlT_ok i v)
    rw [hI.m.res] at c1
    have v1 : balS sa (kVT.1, mUSD) = S := hI.a.bq
    have v2 : balS sb (kNT.1, mUSD) = -B := hI.b.bp
    have hsum := hI.m.sum
    have hma := hI.m.amt
    have c2 := balanced_ac sa sb kNT.1 kVT.1 mUSD ml (by omega) hma (by rw [v1]; omega) (by rw [v2]; omega) (by rw [v1, v2]; omega)
    rw [v1, v2, decide_eq_true (by omega)] at c2
    have c3 := balanced_ac sa sb kNT.1 kVT.1 mUSD (ml ++ [ltX]) (by simp; omega) (fun l hl => by
      rcases List.mem_append.1 hl with hl | hl
      · exact hma l hl
      · rw [List.mem_singleton.1 hl]; exact ⟨by decide, by decide⟩) (by rw [v1]; omega) (by rw [v2]; omega) (by rw [v1, v2]; omega)
    rw [v1, v2, decide_eq_false (by rw [remS_extra]; omega)] at c3
    have hent : ∀ p ∈ sa.P, p.entries.length ≤ 1048576 := fun p hp => by
      obtain ⟨i, hi⟩ := List.getElem?_of_mem hp
      have := (hI.pa i p hi).2
      omega
    have c4 := lposts_ac sa (by have := hI.la; omega) hent
    have c5 := mend_ac sa.P sa.P (by have := hI.la; omega) (by have := hI.la; omega) hent hent
    obtain ⟨M, hM, eM⟩ := hI.pa.mend
    rw [eM] at c5
    have hlM : M.length = ams.length := by rw [hM, hI.la, hkn]
    have e5 : (ml ++ [ltX]).map Lt.enc = [] ++ ml.map Lt.enc ++ [ltX.enc] := by simp
    rw [e5] at c3
    clear hI hma hent hs v1 v2
    repeat' (first | ((with_reducible refine gA ?_); refine AW_freeze [7] (id := 2500) ⟨rfl, trivial⟩ rfl rfl ?_) | ((with_reducible refine gA ?_); refine AW_freeze [8] (id := 2501) ⟨rfl, trivial⟩ rfl rfl ?_) | ((with_reducible refine gA ?_); refine AW_freeze [19] (id := 145) ⟨rfl, trivial⟩ rfl rfl ?_) | ((with_reducible refine gA ?_); (first | refine AW_seq ?_ | refine AW_region ?_ | refine AW_condT rfl ?_ | refine AW_condF rfl ?_ | (refine AW_cond rfl (fun hc => ?_) (fun hc => ?_) <;> try (exfalso; simp only [cmpL] at hc; omega)) | refine AW_ret ?_ | refine AW_skip ?_ | refine AW_exit ?_)) | (((with_reducible refine gS ?_); apply Es_q); rfl; (first | rfl | (refine w_tt ?_; assumption) | (refine w_ff ?_; assumption)); (first | refine LStep_neqF rfl rfl rfl rfl rfl | refine LStep_buildC (T := Tryz.tab) (out' := [_, _, _, _, _, _, _, _, _, _, _, _, .d (.sl 4 []), .d (.sl 1 [])]) rfl rfl rfl rfl rfl rfl ⟨.refl _, .refl _, .refl _, .refl _, .refl _, .refl _, .refl _, .refl _, .refl _, .refl _, .refl _, .refl _, .nil 4, .nil 1, trivial⟩)) | ((with_reducible refine gS ?_); refine Es_s (T := Tryz.tab) rfl rfl rfl rfl ?_) | (((with_reducible refine gS ?_); apply Es_q); rfl; (first | rfl | (refine w_tt ?_; assumption) | (refine w_ff ?_; assumption)); (first | refine LStep_call (c1) rfl rfl rfl rfl | refine LStep_call (c5) rfl rfl rfl rfl)) | (((with_reducible refine gS ?_); apply Es_xs); rfl; (first | rfl | (refine w_tt ?_; assumption) | (refine w_ff ?_; assumption)); (first | (refine LStep_litOwn (T := Tryz.tab) (len := 0) rfl rfl rfl rfl rfl rfl rfl rfl rfl rfl ?_ ?_; (refine Nat.le_of_ble_eq_true ?_; rfl); (unfold maxLen; omega)) | (refine LStep_append (T := Tryz.tab) rfl rfl rfl rfl rfl rfl rfl rfl rfl rfl ?_ ?_ ?_; rfl; (simp only [List.length_append, List.length_map, List.length_cons, List.length_nil]; omega); (unfold maxLen; simp only [List.length_append, List.length_map, List.length_cons, List.length_nil]; omega))); rfl) | (((with_reducible refine gS ?_); apply Es_xg); rfl; (first | rfl | (refine w_tt ?_; assumption) | (refine w_ff ?_; assumption)); (first | refine LStep_callHN [(1000, 4000), (1001, 4001), (1002, 4002), (1003, 4003), (1010, 5000), (1011, 5001), (1012, 5002), (1013, 5003)] [] c2 rfl rfl ⟨rfl, rfl, rfl, rfl, rfl, rfl, rfl, rfl, trivial⟩ rfl ⟨trivial, trivial, rfl, trivial, trivial, trivial, rfl, trivial, trivial⟩ rfl rfl | refine LStep_callHN [(1000, 4000), (1001, 4001), (1002, 4002), (1003, 4003), (1010, 5000), (1011, 5001), (1012, 5002), (1013, 5003)] [] c3 rfl rfl ⟨rfl, rfl, rfl, rfl, rfl, rfl, rfl, rfl, trivial⟩ rfl ⟨trivial, trivial, rfl, trivial, trivial, trivial, rfl, trivial, trivial⟩ rfl rfl | refine LStep_callHN [(1000, 4000), (1001, 4001), (1002, 4002), (1003, 4003)] [] c4 rfl rfl ⟨rfl, rfl, rfl, rfl, trivial⟩ rfl ⟨trivial, trivial, rfl, trivial, trivial⟩ rfl rfl); rfl) | (((with_reducible refine gS ?_); apply Es_q); rfl; (first | rfl | (refine w_tt ?_; assumption) | (refine w_ff ?_; assumption)); (first | refine LStep_simp (T := Tryz.tab) rfl rfl | refine LStep_lenM (T := Tryz.tab) rfl rfl rfl rfl | (refine LStep_sub rfl rfl rfl rfl ?_; (refine IntWalk.i64_in _ ?_; first | omega | (simp only [cmps] at *; omega))) | (refine LStep_pickT rfl rfl ?_ rfl rfl; assumption) | (refine LStep_pickF rfl rfl ?_ rfl rfl; assumption) | (refine LStep_lit (T := Tryz.tab) rfl rfl rfl rfl rfl rfl rfl rfl ?_; (refine Nat.le_of_ble_eq_true ?_; rfl)) | refine LStep_buildN (T := Tryz.tab) rfl rfl rfl rfl rfl rfl rfl)) | (refine Es_skip rfl ?_ rfl ?_; (first | rfl | (refine w_tf ?_; assumption) | (refine w_ft ?_; assumption))) | (refine Es_split rfl ?_ (fun _ => ?_) (fun _ => ?_); ((fail_if_success (refine und_t ?_; assumption)); (fail_if_success (refine und_f ?_; assumption)); exact trivial)) | (with_reducible refine Es_nil ?_) | (with_reducible refine then_n ?_) | (with_reducible refine then_r ?_) | (with_reducible refine then_e ?_) | ((with_reducible refine block_e ?_ ?_); rfl) | ((with_reducible refine gR ?_); first | refine ret1 rfl ?_ | refine ret2 rfl rfl ?_ | refine ret0 ?_ | refine end1 rfl ?_ | refine end0 ?_))
    all_goals simp only [cmps] at *
    all_goals first
      | (exfalso; omega)
      | (refine congrArg (fun b => AV.d (D.sc (Value.bool b))) ?_; rw [hlM, eqb_t.2 rfl]; done)
      | trace_state
end Go.Proofs.YtofdnkgieigncaaGreat
