import Derived.Test.YtfgmnhlopgaanaaW2
namespace Go.Proofs.Ytfgmnhlopgaanaa
open Go.SL

theorem lstep_remW {P : Program} {O : Org} {env : Env} {h : Hp} {o : Oper} {t yt : Nat} {x y : Operand} {k : IntKind} {m n q : Int} (ho : o.op = .binOp .rem t x y yt) (hx : evalA env x = .d (.sc (.int k m))) (hy : evalA env y = .d (.sc (.int k n))) (hn : n ≠ 0) (hq : m.tmod n = q) (hd : dstOk o.dst O.nt = true) :
    LStep P O o env h [] [] (.d (.sc (.int k q))) [] := by
  subst hq
  refine .quiet hd (fun env' h' he _ a w G r => ?_)
  have h1 := evalA_rep r.env x
  have h2 := evalA_rep r.env y
  rw [he x (by simp [ho, Op.operands]), hx] at h1
  rw [he y (by simp [ho, Op.operands]), hy] at h2
  exact ⟨.int k (m.tmod n), by simp [execOp, ho, h1.sc_inv, h2.sc_inv, eqGuard, binOp, Op.intDiv, hn], .d _ _ (.sc _ rfl)⟩
theorem lstep_fitW {P : Program} {T : Tab P} {O : Org} {env : Env} {h : Hp} {o : Oper} {av av' : AV} {Ts : List Nat} (hd : dstOk o.dst O.nt = true) (hs : simp1 T env h o.op = some (av, Ts)) (he : av = av') : LStep P O o env h Ts [] av' [] := he ▸ LStep_simp1 hd hs
def uE (n : Int) : List D := [.sc (.int .u32 n)]
def boE (b : Bool) : List D := [.sc (.bool b)]
/-- a letter of a sum -/
def ltK (k : Int) (x : Int) : Lt := ⟨⟨#[]⟩, ⟨#[]⟩, 0, k, 0, ⟨#[]⟩, ⟨#[]⟩, ⟨#[]⟩, 0, 0, bEUR, x, [], []⟩
def hA4 (s : Led) : Hp := [(4000, some (.cells [.mp 4001, .own 4002 (s.P.map Post.enc).length, .mp 4003])), (4001, some (.map 94 96 (emap k2V aV s.A) none)), (4002, some (.arr 37 3 (s.P.map Post.enc))), (4003, some (.map 9 170 (emap sV hV s.H) none))]
def hB5 (s : Led) : Hp := [(5000, some (.cells [.mp 5001, .own 5002 (s.P.map Post.enc).length, .mp 5003])), (5001, some (.map 94 96 (emap k2V aV s.A) none)), (5002, some (.arr 37 3 (s.P.map Post.enc))), (5003, some (.map 9 170 (emap sV hV s.H) none))]
theorem remS_app (cur : ByteArray) (a b : List Lt) : remS cur (a ++ b) = remS cur a + remS cur b := by unfold remS; rw [List.filter_append, List.map_append, List.sum_append]
/-- the mail: what is paid, then remittances -/
structure MailIs (M : List Lt) (k : Nat) : Prop where
  head : ∃ R, M = ltK 13 5 :: R ∧ ∀ l ∈ R, ∃ x, l = ltK 27 x ∧ 1 ≤ x ∧ x ≤ 4294967296
  len : M.length ≤ k + 1
theorem MailIs.more {M : List Lt} {k : Nat} (h : MailIs M k) {x : Int} (hx : 1 ≤ x ∧ x ≤ 4294967296) : MailIs (M ++ [ltK 27 x]) (k + 1) := by
  obtain ⟨⟨R, rfl, hR⟩, hl⟩ := h
  refine ⟨⟨R ++ [ltK 27 x], rfl, fun l hm => ?_⟩, by simp at hl ⊢; omega⟩
  rcases List.mem_append.1 hm with hm | hm
  · exact hR l hm
  · simp at hm; exact ⟨x, hm, hx⟩
theorem MailIs.next {M : List Lt} {k : Nat} (h : MailIs M k) : MailIs M (k + 1) := ⟨h.head, by have := h.len; omega⟩
theorem MailIs.amt {M : List Lt} {k : Nat} (h : MailIs M k) : ∀ l ∈ M, 0 ≤ l.amt ∧ l.amt ≤ 1099511627776 := by
  obtain ⟨⟨R, rfl, hR⟩, _⟩ := h
  intro l hl
  rcases List.mem_cons.1 hl with rfl | hl
  · exact ⟨by decide, by decide⟩
  · obtain ⟨x, rfl, h1, h2⟩ := hR l hl
    exact ⟨by show 0 ≤ x; omega, by show x ≤ 1099511627776; omega⟩
theorem remB_27 (x : Int) : remB bEUR (ltK 27 x) = true := by simp [remB, ltK]
theorem remB_13 (x : Int) : remB bEUR (ltK 13 x) = false := by simp [remB, ltK]
/-- a letter less: the sum is the same just if it is the first -/
theorem MailIs.less {M : List Lt} {n : Nat} (h : MailIs M n) {k : Nat} (hk : k < M.length) : (remS bEUR (M.take k ++ M.drop (k + 1)) = remS bEUR M) ↔ k = 0 := by
  obtain ⟨⟨R, rfl, hR⟩, _⟩ := h
  obtain ⟨l, hl, hd⟩ := drop_at hk
  have e : remS bEUR (ltK 13 5 :: R) = remS bEUR ((ltK 13 5 :: R).take k) + ((if remB bEUR l = true then l.amt else 0) + remS bEUR ((ltK 13 5 :: R).drop (k + 1))) := by
    conv => lhs; rw [← List.take_append_drop k (ltK 13 5 :: R), hd]
    rw [remS_app]
    congr 1
    rw [show l :: List.drop (k + 1) (ltK 13 5 :: R) = [l] ++ List.drop (k + 1) (ltK 13 5 :: R) from rfl, remS_app]
    congr 1
    have := remS_snoc bEUR [] l
    simpa [remS] using this
  rw [remS_app, e]
  cases k with
  | zero =>
    simp at hl
    subst hl
    simp [remB_13]
  | succ k =>
    have hlR : l ∈ R := List.mem_of_getElem? (by simpa using hl)
    obtain ⟨x, rfl, h1, _⟩ := hR l hlR
    rw [if_pos (remB_27 x)]
    have : (ltK 27 x).amt = x := rfl
    constructor
    · intro hq; omega
    · intro hq; omega
set_option maxRecDepth 20000 in
set_option maxHeartbeats 8000000 in
theorem matchBalances_ac (sums : List Int) (bk : List Bool) (lost : Int) (hls : sums.length ≤ 140737488351232) (hlb : bk.length ≤ 140737488351232) (hs : ∀ n ∈ sums, 0 ≤ n ∧ n ≤ 4294967295) (hlo : 0 ≤ lost ∧ lost ≤ 255) :
    AC Try.prog 8 [.d (.sl 1 (sums.map uE)), .d (.sl 1 (bk.map boE)), .d (.sc (.int .u8 lost))] [] [] (fun r _ => r = .d (.sc (.bool true))) := by
  by_cases hfew : sums.length ≤ 20 ∧ bk.length ≤ 20
  rotate_left
  · refine AC_enter Try.func8 rfl Try.ntmps8 (rv := [.tmp 6]) rfl rfl (by simp) (fun w X G => ?_)
    repeat' (first | ((with_reducible refine gA ?_); (first | refine AW_seq ?_ | refine AW_region ?_ | refine AW_condT rfl ?_ | (refine AW_cond rfl (fun hc => ?_) (fun hc => ?_) <;> try (exfalso; simp only [cmpL] at hc; omega)) | refine AW_ret ?_ | refine AW_skip ?_)) | ((with_reducible refine gS ?_); refine Es_s (T := Try.tab) rfl rfl rfl rfl ?_) | (((with_reducible refine gS ?_); apply Es_q); rfl; (first | rfl | (refine w_ff ?_; assumption)); refine LStep_call (awake_ac) rfl rfl rfl rfl) | (((with_reducible refine gS ?_); apply Es_q); rfl; (first | rfl | (refine w_ff ?_; assumption)); (first | refine LStep_simp (T := Try.tab) rfl rfl | refine LStep_lenM (T := Try.tab) rfl rfl rfl rfl | (refine LStep_pickT rfl rfl ?_ rfl rfl; assumption) | (refine LStep_pickF rfl rfl ?_ rfl rfl; assumption))) | (refine Es_skip rfl ?_ rfl ?_; (first | rfl | (refine w_tf ?_; assumption) | (refine w_ft ?_; assumption))) | (refine Es_split rfl ?_ (fun _ => ?_) (fun _ => ?_); ((fail_if_success (refine und_t ?_; assumption)); (fail_if_success (refine und_f ?_; assumption)); exact trivial)) | (with_reducible refine Es_nil ?_) | (with_reducible refine then_n ?_) | (with_reducible refine then_r ?_) | ((with_reducible refine gR ?_); first | refine ret1 rfl ?_ | refine ret2 rfl rfl ?_ | refine ret0 ?_ | refine end1 rfl ?_ | refine end0 ?_))
    all_goals simp only [cmps] at *
    all_goals first
      | rfl
      | (exfalso; omega)
  obtain ⟨hf1, hf2⟩ := hfew
  have n1 := ledgerNew_ac ⟨#[97]⟩
  have n2 := ledgerNew_ac ⟨#[98]⟩
  have o1 := open_ac l0 kY.1 bEUR (-1099511627776) (by simp [l0])
  rw [open1] at o1
  have o2 := open_ac ⟨[(kY, ⟨-1099511627776, 0, 0⟩)], [], []⟩ kV.1 bEUR 0 (by simp)
  rw [open2] at o2
  have o3 := open_ac l0 kN.1 bEUR (-1099511627776) (by simp [l0])
  rw [open3] at o3
  have o4 := open_ac ⟨[(kN, ⟨-1099511627776, 0, 0⟩)], [], []⟩ kS.1 bEUR 0 (by simp)
  rw [open4] at o4
  refine AC_enter Try.func8 rfl Try.ntmps8 (rv := [.tmp 6]) rfl rfl (by simp) (fun w X G => ?_)
  repeat' (first | ((with_reducible refine gA ?_); (first | refine AW_seq ?_ | refine AW_region ?_ | refine AW_condT rfl ?_ | refine AW_condF rfl ?_ | (refine AW_cond rfl (fun hc => ?_) (fun hc => ?_) <;> try (exfalso; simp only [cmpL] at hc; omega)) | refine AW_block ?_ | refine AW_ret ?_ | refine AW_skip ?_)) | (((with_reducible refine gS ?_); apply Es_q); rfl; (first | rfl | (refine w_ff ?_; assumption)); (first | refine LStep_neqF rfl rfl rfl rfl rfl | refine LStep_buildC (T := Try.tab) (out' := [_, _, _, _, _, _, _, _, _, _, _, _, .d (.sl 4 []), .d (.sl 1 [])]) rfl rfl rfl rfl rfl rfl ⟨.refl _, .refl _, .refl _, .refl _, .refl _, .refl _, .refl _, .refl _, .refl _, .refl _, .refl _, .refl _, .nil 4, .nil 1, trivial⟩)) | ((with_reducible refine gS ?_); refine Es_s (T := Try.tab) rfl rfl rfl rfl ?_) | (((with_reducible refine gS ?_); apply Es_q); rfl; (first | rfl | (refine w_ff ?_; assumption)); refine LStep_call (awake_ac) rfl rfl rfl rfl) | (((with_reducible refine gS ?_); apply Es_xs); rfl; (first | rfl | (refine w_ff ?_; assumption)); (refine LStep_litOwn (T := Try.tab) (len := 1) rfl rfl rfl rfl rfl rfl rfl rfl rfl rfl ?_ ?_; (refine Nat.le_of_ble_eq_true ?_; rfl); (unfold maxLen; omega)); rfl) | (((with_reducible refine gS ?_); apply Es_xg); rfl; (first | rfl | (refine w_ff ?_; assumption)); (first | refine LStep_callHN [] [(6, 4000), (3, 4001), (2000, 4002), (4, 4003)] n1 rfl rfl trivial rfl trivial rfl rfl | refine LStep_callHN [] [(6, 5000), (3, 5001), (2000, 5002), (4, 5003)] n2 rfl rfl trivial rfl trivial rfl rfl | refine LStep_callHN [(1000, 4000), (1001, 4001), (1002, 4002), (1003, 4003)] [] o1 rfl rfl ⟨rfl, rfl, rfl, rfl, trivial⟩ rfl ⟨trivial, trivial, rfl, trivial, trivial⟩ rfl rfl | refine LStep_callHN [(1000, 4000), (1001, 4001), (1002, 4002), (1003, 4003)] [] o2 rfl rfl ⟨rfl, rfl, rfl, rfl, trivial⟩ rfl ⟨trivial, trivial, rfl, trivial, trivial⟩ rfl rfl | refine LStep_callHN [(1000, 5000), (1001, 5001), (1002, 5002), (1003, 5003)] [] o3 rfl rfl ⟨rfl, rfl, rfl, rfl, trivial⟩ rfl ⟨trivial, trivial, rfl, trivial, trivial⟩ rfl rfl | refine LStep_callHN [(1000, 5000), (1001, 5001), (1002, 5002), (1003, 5003)] [] o4 rfl rfl ⟨rfl, rfl, rfl, rfl, trivial⟩ rfl ⟨trivial, trivial, rfl, trivial, trivial⟩ rfl rfl); rfl) | (((with_reducible refine gS ?_); apply Es_q); rfl; (first | rfl | (refine w_ff ?_; assumption)); (first | refine LStep_simp (T := Try.tab) rfl rfl | refine LStep_lenM (T := Try.tab) rfl rfl rfl rfl | (refine LStep_pickT rfl rfl ?_ rfl rfl; assumption) | (refine LStep_pickF rfl rfl ?_ rfl rfl; assumption) | refine LStep_buildN (T := Try.tab) rfl rfl rfl rfl rfl rfl rfl)) | (refine Es_skip rfl ?_ rfl ?_; (first | rfl | (refine w_tf ?_; assumption) | (refine w_ft ?_; assumption))) | (refine Es_split rfl ?_ (fun _ => ?_) (fun _ => ?_); ((fail_if_success (refine und_t ?_; assumption)); (fail_if_success (refine und_f ?_; assumption)); exact trivial)) | (with_reducible refine Es_nil ?_) | (with_reducible refine then_n ?_) | (with_reducible refine then_r ?_) | ((with_reducible refine gR ?_); first | refine ret1 rfl ?_ | refine ret2 rfl rfl ?_ | refine ret0 ?_ | refine end1 rfl ?_ | refine end0 ?_))
  all_goals simp only [cmps] at *
  all_goals first
    | (exfalso; omega)
    | skip
  clear n1 n2 o1 o2 o3 o4
  refine AW_forE (S := Nat × Led × Led × List Lt × Int × Int) (fun t => t.1 ≤ sums.length ∧ t.2.1.A = pA kY kV t.2.2.2.2.1 ∧ t.2.1.P.length = t.1 ∧ t.2.2.1.A = pA kN kS t.2.2.2.2.2 ∧ t.2.2.1.P.length ≤ t.1 ∧ MailIs t.2.2.2.1 t.1 ∧ remS bEUR t.2.2.2.1 = t.2.2.2.2.1 - t.2.2.2.2.2 ∧ 0 ≤ t.2.2.2.2.2 ∧ 0 ≤ t.2.2.2.2.1 ∧ t.2.2.2.2.1 ≤ 4294967296 * (t.1 : Int) ∧ t.2.2.2.2.2 ≤ t.2.2.2.2.1)
    (fun t => [(57, .d (.sc (.int .i64 (t.1 : Nat)))), (9, .own 54 (t.2.2.2.1.map Lt.enc).length)]) (fun t => hA4 t.2.1 ++ (hB5 t.2.2.1 ++ [(54, some (.arr 49 14 (t.2.2.2.1.map Lt.enc)))])) (fun t => sums.length - t.1)
    (0, ⟨[(kY, ⟨-1099511627776, 0, 0⟩), (kV, ⟨0, 0, 0⟩)], [], []⟩, ⟨[(kN, ⟨-1099511627776, 0, 0⟩), (kS, ⟨0, 0, 0⟩)], [], []⟩, [ltK 13 5], 0, 0) ⟨by simp, rfl, rfl, rfl, by simp, ⟨⟨[], rfl, by simp⟩, by simp⟩, by simp [remS, remB_13], by simp, by simp, by simp, by simp⟩ (by (repeat' (first | exact trivial | exact rfl | (refine ⟨Or.inl rfl, ?_⟩) | (refine ⟨Or.inr rfl, ?_⟩) | (refine ⟨rfl, ?_⟩) | (refine ⟨?_, ?_⟩)))) (by (repeat' (first | exact trivial | exact rfl | (refine ⟨Or.inl rfl, ?_⟩) | (refine ⟨Or.inr rfl, ?_⟩) | (refine ⟨rfl, ?_⟩) | (refine ⟨?_, ?_⟩)))) ?_
  rintro ⟨k, sa, sb, M, S, B⟩ ⟨hk, hA, hPa, hB, hPb, hM, hR, hB0, hS0, hSk, hBS⟩
  dsimp only at *
  by_cases hlt : k < sums.length
  · obtain ⟨n, hn, _⟩ := drop_at hlt
    obtain ⟨hx1, hx2⟩ := hs n (List.mem_of_getElem? hn)
    have hneg : AV.d (.sc (.int .i64 (wrp .i64 (0 - (n + 1))))) = .d (.sc (.int .i64 (-(n + 1)))) := by rw [wrp_fit (by omega), Int.zero_sub]
    have ea := post_pair kYV rfl hA ⟨#[112, 97, 121]⟩ (by decide) (by omega) hS0 (show 0 < n + 1 by omega) (by omega)
    have cpa := postOk_ac sa ⟨#[112, 97, 121]⟩ (pX kY kV (n + 1)) (by rw [hA]; exact keys_pair kYV S) ea
    have hga := enter_grows sa ⟨#[112, 97, 121]⟩ (pX kY kV (n + 1))
    have hA' : (enterS sa ⟨#[112, 97, 121]⟩ (pX kY kV (n + 1))).A = pA kY kV (S + (n + 1)) := by show enterA _ sa.A = _; rw [hA, enter_pair kYV hS0 (by omega) (by omega)]
    have hPa' : (enterS sa ⟨#[112, 97, 121]⟩ (pX kY kV (n + 1))).P.length = k + 1 := by simp [enterS, hPa]
    generalize enterS sa ⟨#[112, 97, 121]⟩ (pX kY kV (n + 1)) = sa' at *
    have hml := hM.len
    clear ea hs
    have step2 : ∀ b : Bool, (bk[k]? = some b ∨ (bk.length ≤ k ∧ b = false)) → b = false → remS bEUR (M ++ [ltK 27 (n + 1)]) = (S + (n + 1)) - B := by
      intro b _ _
      rw [remS_snoc, if_pos (remB_27 _), hR]
      show S - B + (n + 1) = _
      omega
    by_cases hkb : k < bk.length
    · obtain ⟨b, hb, _⟩ := drop_at hkb
      cases b with
      | true =>
        have eb := post_pair kNS rfl hB ⟨#[114, 101, 109, 105, 116]⟩ (by decide) (by omega) hB0 (show 0 < n + 1 by omega) (by omega)
        have cpb := postOk_ac sb ⟨#[114, 101, 109, 105, 116]⟩ (pX kN kS (n + 1)) (by rw [hB]; exact keys_pair kNS B) eb
        have hgb := enter_grows sb ⟨#[114, 101, 109, 105, 116]⟩ (pX kN kS (n + 1))
        have hB' : (enterS sb ⟨#[114, 101, 109, 105, 116]⟩ (pX kN kS (n + 1))).A = pA kN kS (B + (n + 1)) := by show enterA _ sb.A = _; rw [hB, enter_pair kNS hB0 (by omega) (by omega)]
        have hPb' : (enterS sb ⟨#[114, 101, 109, 105, 116]⟩ (pX kN kS (n + 1))).P.length ≤ k + 1 := by simp [enterS]; exact hPb
        generalize enterS sb ⟨#[114, 101, 109, 105, 116]⟩ (pX kN kS (n + 1)) = sb' at *
        clear eb
        repeat' (first | ((with_reducible refine gA ?_); (first | refine AW_seq ?_ | refine AW_region ?_ | refine AW_condT rfl ?_ | refine AW_condF rfl ?_ | (refine AW_cond rfl (fun hc => ?_) (fun hc => ?_) <;> try (exfalso; simp only [cmpL] at hc; omega)) | refine AW_block ?_ | refine AW_skip ?_ | refine AW_exit ?_)) | (((with_reducible refine gS ?_); apply Es_q); rfl; (first | rfl | (refine w_tt ?_; assumption)); (first | refine lstep_fitW (T := Try.tab) rfl rfl hneg | refine LStep_neqF rfl rfl rfl rfl rfl)) | ((with_reducible refine gS ?_); refine Es_s (T := Try.tab) rfl rfl rfl rfl ?_) | (((with_reducible refine gS ?_); apply Es_xg); rfl; (first | rfl | (refine w_tt ?_; assumption)); (first | refine LStep_callGN [1002] [(1000, 4000), (1001, 4001), (1002, 4002), (1003, 4003)] [] cpa rfl rfl ⟨rfl, rfl, rfl, rfl, trivial⟩ rfl ⟨trivial, trivial, hga, trivial, trivial⟩ rfl rfl | refine LStep_callGN [1002] [(1000, 5000), (1001, 5001), (1002, 5002), (1003, 5003)] [] cpb rfl rfl ⟨rfl, rfl, rfl, rfl, trivial⟩ rfl ⟨trivial, trivial, hgb, trivial, trivial⟩ rfl rfl); rfl) | (((with_reducible refine gS ?_); apply Es_q); rfl; (first | rfl | (refine w_tt ?_; assumption)); (first | refine LStep_simp (T := Try.tab) rfl rfl | refine LStep_lenM (T := Try.tab) rfl rfl rfl rfl | (refine LStep_add rfl rfl rfl rfl ?_; (refine IntWalk.i64_in _ ?_; first | omega | (simp only [cmps] at *; omega))) | (refine LStep_conv (T := Try.tab) rfl rfl rfl rfl rfl ?_; (refine IntWalk.i64_in _ ?_; first | omega | (simp only [cmps] at *; omega))) | (refine LStep_pickT rfl rfl ?_ rfl rfl; assumption) | (refine LStep_pickF rfl rfl ?_ rfl rfl; assumption) | (refine LStep_indexM (T := Try.tab) (c := ?_) rfl rfl rfl rfl rfl rfl ?_; rotate_left; assumption) | (refine LStep_lit (T := Try.tab) rfl rfl rfl rfl rfl rfl rfl rfl ?_; (refine Nat.le_of_ble_eq_true ?_; rfl)) | refine LStep_buildN (T := Try.tab) rfl rfl rfl rfl rfl rfl rfl)) | (refine Es_skip rfl ?_ rfl ?_; (first | rfl | (refine w_tf ?_; assumption) | (refine w_ft ?_; assumption))) | (refine Es_split rfl ?_ (fun _ => ?_) (fun _ => ?_); ((fail_if_success (refine und_t ?_; assumption)); (fail_if_success (refine und_f ?_; assumption)); exact trivial)) | (with_reducible refine Es_nil ?_) | (with_reducible refine then_n ?_) | (with_reducible refine then_e ?_) | ((with_reducible refine block_e ?_ ?_); rfl))
        all_goals simp only [cmps] at *
        all_goals first
          | (exfalso; omega)
          | skip
        refine ⟨(k + 1, sa', sb', M, S + (n + 1), B + (n + 1)), ?_, by dsimp only; omega, by (repeat' (first | exact trivial | exact rfl | (refine ⟨Or.inl rfl, ?_⟩) | (refine ⟨Or.inr rfl, ?_⟩) | (refine ⟨rfl, ?_⟩) | (refine ⟨?_, ?_⟩))), by (repeat' (first | exact trivial | exact rfl | (refine ⟨Or.inl rfl, ?_⟩) | (refine ⟨Or.inr rfl, ?_⟩) | (refine ⟨rfl, ?_⟩) | (refine ⟨?_, ?_⟩))), by (repeat' (first | exact trivial | exact rfl | (refine ⟨Or.inl rfl, ?_⟩) | (refine ⟨Or.inr rfl, ?_⟩) | (refine ⟨rfl, ?_⟩) | (refine ⟨?_, ?_⟩))), by (repeat' (first | exact trivial | exact rfl | (refine ⟨Or.inl rfl, ?_⟩) | (refine ⟨Or.inr rfl, ?_⟩) | (refine ⟨rfl, ?_⟩) | (refine ⟨?_, ?_⟩)))⟩
        dsimp only; exact ⟨by omega, hA', hPa', hB', hPb', hM.next, by omega, by omega, by omega, by omega, by omega⟩
      | false =>
        repeat' (first | ((with_reducible refine gA ?_); (first | refine AW_seq ?_ | refine AW_region ?_ | refine AW_condF rfl ?_ | (refine AW_cond rfl (fun hc => ?_) (fun hc => ?_) <;> try (exfalso; simp only [cmpL] at hc; omega)) | refine AW_block ?_ | refine AW_skip ?_)) | (((with_reducible refine gS ?_); apply Es_q); rfl; (first | rfl | (refine w_tt ?_; assumption)); (first | refine lstep_fitW (T := Try.tab) rfl rfl hneg | refine LStep_neqF rfl rfl rfl rfl rfl | refine LStep_buildC (T := Try.tab) (out' := [_, _, _, _, _, _, _, _, _, _, _, _, .d (.sl 4 []), .d (.sl 1 [])]) rfl rfl rfl rfl rfl rfl ⟨.refl _, .refl _, .refl _, .refl _, .refl _, .refl _, .refl _, .refl _, .refl _, .refl _, .refl _, .refl _, .nil 4, .nil 1, trivial⟩)) | ((with_reducible refine gS ?_); refine Es_s (T := Try.tab) rfl rfl rfl rfl ?_) | (((with_reducible refine gS ?_); apply Es_xs); rfl; (first | rfl | (refine w_tt ?_; assumption)); (refine LStep_append (T := Try.tab) rfl rfl rfl rfl rfl rfl rfl rfl rfl rfl ?_ ?_ ?_; rfl; (simp only [List.length_append, List.length_map, List.length_cons, List.length_nil, List.length_take, List.length_drop]; omega); (unfold maxLen; simp only [List.length_append, List.length_map, List.length_cons, List.length_nil, List.length_take, List.length_drop]; omega)); rfl) | (((with_reducible refine gS ?_); apply Es_xg); rfl; (first | rfl | (refine w_tt ?_; assumption)); refine LStep_callGN [1002] [(1000, 4000), (1001, 4001), (1002, 4002), (1003, 4003)] [] cpa rfl rfl ⟨rfl, rfl, rfl, rfl, trivial⟩ rfl ⟨trivial, trivial, hga, trivial, trivial⟩ rfl rfl; rfl) | (((with_reducible refine gS ?_); apply Es_q); rfl; (first | rfl | (refine w_tt ?_; assumption)); (first | refine LStep_simp (T := Try.tab) rfl rfl | refine LStep_lenM (T := Try.tab) rfl rfl rfl rfl | (refine LStep_add rfl rfl rfl rfl ?_; (refine IntWalk.i64_in _ ?_; first | omega | (simp only [cmps] at *; omega))) | (refine LStep_conv (T := Try.tab) rfl rfl rfl rfl rfl ?_; (refine IntWalk.i64_in _ ?_; first | omega | (simp only [cmps] at *; omega))) | (refine LStep_pickT rfl rfl ?_ rfl rfl; assumption) | (refine LStep_pickF rfl rfl ?_ rfl rfl; assumption) | (refine LStep_indexM (T := Try.tab) (c := ?_) rfl rfl rfl rfl rfl rfl ?_; rotate_left; assumption) | (refine LStep_lit (T := Try.tab) rfl rfl rfl rfl rfl rfl rfl rfl ?_; (refine Nat.le_of_ble_eq_true ?_; rfl)) | refine LStep_buildN (T := Try.tab) rfl rfl rfl rfl rfl rfl rfl)) | (refine Es_skip rfl ?_ rfl ?_; (first | rfl | (refine w_tf ?_; assumption) | (refine w_ft ?_; assumption))) | (refine Es_split rfl ?_ (fun _ => ?_) (fun _ => ?_); ((fail_if_success (refine und_t ?_; assumption)); (fail_if_success (refine und_f ?_; assumption)); exact trivial)) | (with_reducible refine Es_nil ?_) | (with_reducible refine then_n ?_) | (with_reducible refine block_n ?_))
        all_goals simp only [cmps] at *
        all_goals first
          | (exfalso; omega)
          | skip
        refine ⟨(k + 1, sa', sb, M ++ [ltK 27 (n + 1)], S + (n + 1), B), ?_, by dsimp only; omega, ?_, by (repeat' (first | exact trivial | exact rfl | (refine ⟨Or.inl rfl, ?_⟩) | (refine ⟨Or.inr rfl, ?_⟩) | (refine ⟨rfl, ?_⟩) | (refine ⟨?_, ?_⟩))), ?_, by (repeat' (first | exact trivial | exact rfl | (refine ⟨Or.inl rfl, ?_⟩) | (refine ⟨Or.inr rfl, ?_⟩) | (refine ⟨rfl, ?_⟩) | (refine ⟨?_, ?_⟩)))⟩
        · dsimp only; exact ⟨by omega, hA', hPa', hB, by omega, hM.more (by omega), step2 false (.inl hb) rfl, by omega, by omega, by omega, by omega⟩
        · dsimp only; rw [List.map_append]; (repeat' (first | exact trivial | exact rfl | (refine ⟨Or.inl rfl, ?_⟩) | (refine ⟨Or.inr rfl, ?_⟩) | (refine ⟨rfl, ?_⟩) | (refine ⟨?_, ?_⟩)))
        · dsimp only; rw [List.map_append]; (repeat' (first | exact trivial | exact rfl | (refine ⟨Or.inl rfl, ?_⟩) | (refine ⟨Or.inr rfl, ?_⟩) | (refine ⟨rfl, ?_⟩) | (refine ⟨?_, ?_⟩)))
    · repeat' (first | ((with_reducible refine gA ?_); (first | refine AW_seq ?_ | refine AW_region ?_ | refine AW_condF rfl ?_ | (refine AW_cond rfl (fun hc => ?_) (fun hc => ?_) <;> try (exfalso; simp only [cmpL] at hc; omega)) | refine AW_block ?_ | refine AW_skip ?_)) | (((with_reducible refine gS ?_); apply Es_q); rfl; (first | rfl | (refine w_tt ?_; assumption)); (first | refine lstep_fitW (T := Try.tab) rfl rfl hneg | refine LStep_neqF rfl rfl rfl rfl rfl | refine LStep_buildC (T := Try.tab) (out' := [_, _, _, _, _, _, _, _, _, _, _, _, .d (.sl 4 []), .d (.sl 1 [])]) rfl rfl rfl rfl rfl rfl ⟨.refl _, .refl _, .refl _, .refl _, .refl _, .refl _, .refl _, .refl _, .refl _, .refl _, .refl _, .refl _, .nil 4, .nil 1, trivial⟩)) | ((with_reducible refine gS ?_); refine Es_s (T := Try.tab) rfl rfl rfl rfl ?_) | (((with_reducible refine gS ?_); apply Es_xs); rfl; (first | rfl | (refine w_tt ?_; assumption)); (refine LStep_append (T := Try.tab) rfl rfl rfl rfl rfl rfl rfl rfl rfl rfl ?_ ?_ ?_; rfl; (simp only [List.length_append, List.length_map, List.length_cons, List.length_nil, List.length_take, List.length_drop]; omega); (unfold maxLen; simp only [List.length_append, List.length_map, List.length_cons, List.length_nil, List.length_take, List.length_drop]; omega)); rfl) | (((with_reducible refine gS ?_); apply Es_xg); rfl; (first | rfl | (refine w_tt ?_; assumption)); refine LStep_callGN [1002] [(1000, 4000), (1001, 4001), (1002, 4002), (1003, 4003)] [] cpa rfl rfl ⟨rfl, rfl, rfl, rfl, trivial⟩ rfl ⟨trivial, trivial, hga, trivial, trivial⟩ rfl rfl; rfl) | (((with_reducible refine gS ?_); apply Es_q); rfl; (first | rfl | (refine w_tt ?_; assumption)); (first | refine LStep_simp (T := Try.tab) rfl rfl | refine LStep_lenM (T := Try.tab) rfl rfl rfl rfl | (refine LStep_add rfl rfl rfl rfl ?_; (refine IntWalk.i64_in _ ?_; first | omega | (simp only [cmps] at *; omega))) | (refine LStep_conv (T := Try.tab) rfl rfl rfl rfl rfl ?_; (refine IntWalk.i64_in _ ?_; first | omega | (simp only [cmps] at *; omega))) | (refine LStep_pickF rfl rfl ?_ rfl rfl; assumption) | (refine LStep_indexM (T := Try.tab) (c := ?_) rfl rfl rfl rfl rfl rfl ?_; rotate_left; assumption) | (refine LStep_lit (T := Try.tab) rfl rfl rfl rfl rfl rfl rfl rfl ?_; (refine Nat.le_of_ble_eq_true ?_; rfl)) | refine LStep_buildN (T := Try.tab) rfl rfl rfl rfl rfl rfl rfl)) | (refine Es_skip rfl ?_ rfl ?_; (first | rfl | (refine w_tf ?_; assumption) | (refine w_ft ?_; assumption))) | (refine Es_split rfl ?_ (fun _ => ?_) (fun _ => ?_); ((fail_if_success (refine und_t ?_; assumption)); (fail_if_success (refine und_f ?_; assumption)); exact trivial)) | (with_reducible refine Es_nil ?_) | (with_reducible refine then_n ?_) | (with_reducible refine block_n ?_))
      all_goals simp only [cmps] at *
      all_goals first
        | (exfalso; omega)
        | skip
      refine ⟨(k + 1, sa', sb, M ++ [ltK 27 (n + 1)], S + (n + 1), B), ?_, by dsimp only; omega, ?_, by (repeat' (first | exact trivial | exact rfl | (refine ⟨Or.inl rfl, ?_⟩) | (refine ⟨Or.inr rfl, ?_⟩) | (refine ⟨rfl, ?_⟩) | (refine ⟨?_, ?_⟩))), ?_, by (repeat' (first | exact trivial | exact rfl | (refine ⟨Or.inl rfl, ?_⟩) | (refine ⟨Or.inr rfl, ?_⟩) | (refine ⟨rfl, ?_⟩) | (refine ⟨?_, ?_⟩)))⟩
      · dsimp only; exact ⟨by omega, hA', hPa', hB, by omega, hM.more (by omega), step2 false (.inr ⟨by omega, rfl⟩) rfl, by omega, by omega, by omega, by omega⟩
      · dsimp only; rw [List.map_append]; (repeat' (first | exact trivial | exact rfl | (refine ⟨Or.inl rfl, ?_⟩) | (refine ⟨Or.inr rfl, ?_⟩) | (refine ⟨rfl, ?_⟩) | (refine ⟨?_, ?_⟩)))
      · dsimp only; rw [List.map_append]; (repeat' (first | exact trivial | exact rfl | (refine ⟨Or.inl rfl, ?_⟩) | (refine ⟨Or.inr rfl, ?_⟩) | (refine ⟨rfl, ?_⟩) | (refine ⟨?_, ?_⟩)))
  · have hml := hM.len
    have hMa := hM.amt
    have v1 : balS sa (kV.1, bEUR) = S := bal_pair2 kYV hA
    have v2 : balS sb (kN.1, bEUR) = -B := bal_pair1 hB
    have v3 : balS sa (kV.1, bUSD) = 0 := bal_pair0 (of_decide_eq_true (by kernel_rfl)) (of_decide_eq_true (by kernel_rfl)) hA
    have v4 : balS sb (kN.1, bUSD) = 0 := bal_pair0 (of_decide_eq_true (by kernel_rfl)) (of_decide_eq_true (by kernel_rfl)) hB
    have v5 : balS sb (⟨#[110, 111, 110, 101]⟩, bEUR) = 0 := bal_pair0 (of_decide_eq_true (by kernel_rfl)) (of_decide_eq_true (by kernel_rfl)) hB
    have v6 : balS sa (⟨#[110, 111, 110, 101]⟩, bEUR) = 0 := bal_pair0 (of_decide_eq_true (by kernel_rfl)) (of_decide_eq_true (by kernel_rfl)) hA
    have c1 := balanced_ac sa sb kN.1 kV.1 bEUR M (by omega) hMa (by rw [v1]; omega) (by rw [v2]; omega) (by rw [v1, v2]; omega)
    rw [v1, v2, decide_eq_true (by omega)] at c1
    have c2 := balanced_ac sa sb kN.1 kV.1 bUSD [] (by simp) (by simp) (by rw [v3]; omega) (by rw [v4]; omega) (by rw [v3, v4]; omega)
    rw [v3, v4, decide_eq_true (by rfl)] at c2
    have c2 := c2.coe (args' := [_, _, _, _, .d (.sc (.slice none 0 0)), _]) ⟨.refl _, .refl _, .refl _, .refl _, .nil 14, .refl _, trivial⟩
    have c3 := balanced_ac sb sa ⟨#[110, 111, 110, 101]⟩ ⟨#[110, 111, 110, 101]⟩ bEUR [] (by simp) (by simp) (by rw [v5]; omega) (by rw [v6]; omega) (by rw [v5, v6]; omega)
    rw [v5, v6, decide_eq_true (by rfl)] at c3
    have c3 := c3.coe (args' := [_, _, _, _, .d (.sc (.slice none 0 0)), _]) ⟨.refl _, .refl _, .refl _, .refl _, .nil 14, .refl _, trivial⟩
    have hpos : 0 < M.length := by obtain ⟨⟨R, rfl, _⟩, _⟩ := hM; simp
    obtain ⟨q, hq, hqM⟩ : ∃ q : Nat, lost.tmod (M.length : Int) = (q : Int) ∧ q < M.length := by
      have h1 := Int.tmod_nonneg (M.length : Int) hlo.1
      have h2 := Int.tmod_lt_of_pos lost (show (0 : Int) < (M.length : Int) by omega)
      exact ⟨(lost.tmod M.length).toNat, by omega, by omega⟩
    have hless := hM.less hqM
    have c4 := balanced_ac sa sb kN.1 kV.1 bEUR (M.take q ++ M.drop (q + 1)) (by simp; omega) (fun l hl => hMa l (by
      rcases List.mem_append.1 hl with hl | hl
      · exact List.mem_of_mem_take hl
      · exact List.mem_of_mem_drop hl)) (by rw [v1]; omega) (by rw [v2]; omega) (by rw [v1, v2]; omega)
    rw [v1, v2, show S + -B = remS bEUR M by omega] at c4
    have e4 : decide (remS bEUR (M.take q ++ M.drop (q + 1)) = remS bEUR M) = decide ((q : Int) = 0) := by
      rw [Bool.eq_iff_iff, decide_eq_true_eq, decide_eq_true_eq, hless]
      omega
    rw [e4] at c4
    have hlm : (M.map Lt.enc).length = M.length := by simp
    have e5 : (M.take q ++ M.drop (q + 1)).map Lt.enc = [] ++ (List.drop (Int.toNat 0) (List.take ((q : Nat) : Int).toNat M)).map Lt.enc ++ (List.drop (((q : Nat) : Int) + 1).toNat (List.take (((M.map Lt.enc).length : Nat) : Int).toNat M)).map Lt.enc := by
      rw [hlm, Int.toNat_natCast, Int.toNat_natCast, show (((q : Nat) : Int) + 1).toNat = q + 1 by omega, List.take_length]
      simp
    rw [e5] at c4
    clear hA hB hR hM hMa hs
    repeat' (first | ((with_reducible refine gA ?_); refine AW_freeze [9] (id := 54) ⟨rfl, trivial⟩ rfl rfl ?_) | ((with_reducible refine gA ?_); refine AW_freeze [18] (id := 130) ⟨rfl, trivial⟩ rfl rfl ?_) | ((with_reducible refine gA ?_); (first | refine AW_seq ?_ | refine AW_region ?_ | refine AW_regionD Try.mixed ?_ | refine AW_condF rfl ?_ | (refine AW_cond rfl (fun hc => ?_) (fun hc => ?_) <;> try (exfalso; simp only [cmpL] at hc; omega)) | refine AW_ret ?_ | refine AW_skip ?_ | refine AW_exit ?_)) | (first | ((with_reducible refine gS ?_); refine Es_s (T := Try.tab) rfl rfl rfl rfl ?_) | ((with_reducible refine gD ?_); refine Ed_s (T := Try.tab) rfl rfl rfl rfl ?_)) | ((first | ((with_reducible refine gS ?_); apply Es_q) | ((with_reducible refine gD ?_); apply Ed_q)); rfl; rfl; (first | (refine lstep_remW (q := (q : Nat)) rfl rfl rfl ?_ ?_ rfl; omega; exact hq) | refine LStep_eqBool (T := Try.tab) rfl rfl rfl rfl rfl)) | ((first | ((with_reducible refine gS ?_); apply Es_xs) | ((with_reducible refine gD ?_); apply Ed_xs)); rfl; rfl; (first | (refine LStep_litOwn (T := Try.tab) (len := 0) rfl rfl rfl rfl rfl rfl rfl rfl rfl rfl ?_ ?_; (refine Nat.le_of_ble_eq_true ?_; rfl); (unfold maxLen; omega)) | (refine LStep_append (T := Try.tab) rfl rfl rfl rfl rfl rfl rfl rfl rfl rfl ?_ ?_ ?_; rfl; (simp only [List.length_append, List.length_map, List.length_cons, List.length_nil, List.length_take, List.length_drop]; omega); (unfold maxLen; simp only [List.length_append, List.length_map, List.length_cons, List.length_nil, List.length_take, List.length_drop]; omega))); rfl) | ((first | ((with_reducible refine gS ?_); apply Es_xg) | ((with_reducible refine gD ?_); apply Ed_xg)); rfl; rfl; (first | refine LStep_callHN [(1000, 4000), (1001, 4001), (1002, 4002), (1003, 4003), (1010, 5000), (1011, 5001), (1012, 5002), (1013, 5003)] [] c1 rfl rfl ⟨rfl, rfl, rfl, rfl, rfl, rfl, rfl, rfl, trivial⟩ rfl ⟨trivial, trivial, rfl, trivial, trivial, trivial, rfl, trivial, trivial⟩ rfl rfl | refine LStep_callHN [(1000, 4000), (1001, 4001), (1002, 4002), (1003, 4003), (1010, 5000), (1011, 5001), (1012, 5002), (1013, 5003)] [] c2 rfl rfl ⟨rfl, rfl, rfl, rfl, rfl, rfl, rfl, rfl, trivial⟩ rfl ⟨trivial, trivial, rfl, trivial, trivial, trivial, rfl, trivial, trivial⟩ rfl rfl | refine LStep_callHN [(1000, 5000), (1001, 5001), (1002, 5002), (1003, 5003), (1010, 4000), (1011, 4001), (1012, 4002), (1013, 4003)] [] c3 rfl rfl ⟨rfl, rfl, rfl, rfl, rfl, rfl, rfl, rfl, trivial⟩ rfl ⟨trivial, trivial, rfl, trivial, trivial, trivial, rfl, trivial, trivial⟩ rfl rfl | refine LStep_callHN [(1000, 4000), (1001, 4001), (1002, 4002), (1003, 4003), (1010, 5000), (1011, 5001), (1012, 5002), (1013, 5003)] [] c4 rfl rfl ⟨rfl, rfl, rfl, rfl, rfl, rfl, rfl, rfl, trivial⟩ rfl ⟨trivial, trivial, rfl, trivial, trivial, trivial, rfl, trivial, trivial⟩ rfl rfl); rfl) | ((first | ((with_reducible refine gS ?_); apply Es_q) | ((with_reducible refine gD ?_); apply Ed_q)); rfl; rfl; (first | refine LStep_simp (T := Try.tab) rfl rfl | refine LStep_lenM (T := Try.tab) rfl rfl rfl rfl | (refine LStep_add rfl rfl rfl rfl ?_; (refine IntWalk.i64_in _ ?_; first | omega | (simp only [cmps] at *; omega))) | (refine LStep_conv (T := Try.tab) rfl rfl rfl rfl rfl ?_; (refine IntWalk.i64_in _ ?_; first | omega | (simp only [cmps] at *; omega))) | (refine LStep_partM (T := Try.tab) rfl rfl rfl rfl rfl rfl rfl ?_ ?_ ?_; omega; (first | omega | (simp only [List.length_map]; omega)); (first | omega | (simp only [List.length_map]; omega))))) | (with_reducible refine Es_nil ?_) | ((with_reducible refine Ed_nil ?_ ?_); kernel_rfl) | (with_reducible refine then_n ?_) | (with_reducible refine then_e ?_) | ((with_reducible refine block_e ?_ ?_); rfl) | ((with_reducible refine gR ?_); first | refine ret1 rfl ?_ | refine ret2 rfl rfl ?_ | refine ret0 ?_ | refine end1 rfl ?_ | refine end0 ?_))
    all_goals simp only [cmps] at *
    all_goals first
      | (exfalso; omega)
      | (refine congrArg (fun b => AV.d (D.sc (Value.bool b))) ?_; rw [eqb_d, beq_self_eq_true])
end Go.Proofs.Ytfgmnhlopgaanaa
