import Derived.Test.YtbekoielblcbmaaX2
import Derived.Test.YtbekoielblcbmaaV6
namespace Go.Proofs.Ytbekoielblcbmaa
open Go.SL
/-! ### Total -/
def curSum (c : ByteArray) (A : List (K2 × Acc)) : Int := (A.map fun p => if p.1.2 = c then p.2.bal else 0).sum
theorem curSum_snoc (c : ByteArray) (A : List (K2 × Acc)) (p : K2 × Acc) : curSum c (A ++ [p]) = curSum c A + (if p.1.2 = c then p.2.bal else 0) := by simp [curSum]
theorem curSum_perm {c : ByteArray} {A B : List (K2 × Acc)} (h : A.Perm B) : curSum c A = curSum c B := by
  unfold curSum
  induction h with
  | nil => rfl
  | cons x _ ih => simp [ih]
  | swap x y l => simp only [List.map_cons, List.sum_cons]; omega
  | trans _ _ h1 h2 => rw [h1, h2]
theorem wrp_add_l (x y : Int) : wrp .i64 (wrp .i64 x + y) = wrp .i64 (x + y) := by
  unfold wrp IntKind.wrap
  simp [IntKind.bits, IntKind.signed]
  omega
def totS (s : Led) (c : ByteArray) : Int := wrp .i64 (curSum c s.A)
set_option maxRecDepth 10000 in
set_option maxHeartbeats 2000000 in
theorem total_ac (s : Led) (c : ByteArray) (hk : (akeys s.A).Nodup) : AC Try.prog 26 [.ptr 1000 0, .d (.sc (.string c))] (hL s) [1000, 1001, 1002, 1003]
    (fun r h' => r = .d (.sc (.int .i64 (totS s c))) ∧ SubH (hL s) h') := by
  have hkA := emap_nodup (cv := aV) k2V_inj hk
  refine AC_enter Try.func26 rfl Try.ntmps26 (rv := [.tmp 4]) rfl rfl (by simp) (fun w X G => ?_)
  repeat' (first | ((with_reducible refine gA ?_); (first | refine AW_seq ?_ | refine AW_region ?_ | refine AW_block ?_)) | ((with_reducible refine gS ?_); refine Es_s (T := Try.tab) rfl rfl rfl rfl ?_) | (((with_reducible refine gS ?_); apply Es_xg); rfl; rfl; refine LStep_range (T := Try.tab) rfl rfl rfl rfl rfl rfl rfl; rfl) | (with_reducible refine Es_nil ?_) | (with_reducible refine then_n ?_))
  refine AW_forE (S := List (K2 × Acc) × List (K2 × Acc) × Option Value) (fun t => (t.2.1 ++ t.1).Perm s.A) (fun t => [(5, .d (.sc (.int .i64 (wrp .i64 (curSum c t.2.1)))))])
    (fun t => [(1001, some (.map 75 77 (emap k2V aV s.A) (some (12, (emap k2V aV t.1).map (·.1), t.2.2))))]) (fun s => s.1.length) (s.A, [], none) (List.Perm.refl _) (by dsimp only; rw [show wrp .i64 (curSum c []) = 0 from wrp_fit (by simp [curSum])]; (repeat' (first | exact trivial | exact rfl | (refine ⟨Or.inl rfl, ?_⟩) | (refine ⟨Or.inr rfl, ?_⟩) | (refine ⟨Or.inr trivial, ?_⟩) | (refine ⟨rfl, ?_⟩) | (refine ⟨?_, ?_⟩)))) (by (repeat' (first | exact trivial | exact rfl | (refine ⟨Or.inl rfl, ?_⟩) | (refine ⟨Or.inr rfl, ?_⟩) | (refine ⟨Or.inr trivial, ?_⟩) | (refine ⟨rfl, ?_⟩) | (refine ⟨?_, ?_⟩)))) ?_
  intro ⟨mt, acc, cur⟩ hp
  dsimp only at hp ⊢
  have hn3 : ((emap k2V aV mt).map (·.1)).Nodup := by
    have h1 : (emap k2V aV (acc ++ mt)).Perm (emap k2V aV s.A) := hp.map _
    have h2 := (h1.map (·.1)).nodup_iff.2 hkA
    rw [etodo_join, List.nodup_append] at h2
    exact h2.2.1
  repeat' (first | ((with_reducible refine gS ?_); refine Es_next 1001 rfl rfl rfl rfl rfl rfl hkA hn3 (fun h0 => ?_) (fun pre k post h0 => ?_)) | ((with_reducible refine gRc ?_); refine AW_noIt 1001 rfl ?_) | ((with_reducible refine gA ?_); (first | refine AW_seq ?_ | refine AW_region ?_ | refine AW_condT rfl ?_ | refine AW_condF rfl ?_ | refine AW_block ?_ | refine AW_ret ?_ | refine AW_skip ?_ | refine AW_exit ?_)) | ((with_reducible refine gS ?_); refine Es_s (T := Try.tab) rfl rfl rfl rfl ?_) | (refine Es_skip rfl ?_ rfl ?_; (first | rfl | (refine w_tf ?_; assumption) | (refine w_ft ?_; assumption))) | (with_reducible refine Es_nil ?_) | (with_reducible refine then_n ?_) | (with_reducible refine then_e ?_) | ((with_reducible refine block_e ?_ ?_); rfl) | ((with_reducible refine gR ?_); first | refine ret1 rfl ?_ | refine ret2 rfl rfl ?_ | refine ret0 ?_ | refine end1 rfl ?_ | refine end0 ?_))
  rotate_left
  · obtain ⟨a, p, b, rfl, rfl, rfl, rfl⟩ := etodo_split h0
    have hpm : p ∈ s.A := hp.mem_iff.1 (by simp)
    have hmem : (k2V p.1, aV p.2) ∈ emap k2V aV s.A := List.mem_map.2 ⟨p, hpm, rfl⟩
    repeat' (first | ((with_reducible refine gA ?_); (first | refine AW_seq ?_ | refine AW_region ?_ | (refine AW_cond rfl (fun hc => ?_) (fun hc => ?_) <;> try (exfalso; simp only [cmpL] at hc; omega)) | refine AW_skip ?_)) | ((with_reducible refine gS ?_); refine Es_s (T := Try.tab) rfl rfl rfl rfl ?_) | (((with_reducible refine gS ?_); apply Es_q); rfl; rfl; refine LStep_entry (kav := .agg [.d (.sc (.string p.1.1)), .d (.sc (.string p.1.2))]) 1001 hmem rfl rfl rfl rfl hkA (k2_rep p.1)) | (((with_reducible refine gS ?_); apply Es_q); rfl; rfl; refine LStep_wrap (T := Try.tab) rfl rfl) | (refine Es_skip rfl ?_ rfl ?_; (first | rfl | (refine w_tf ?_; assumption) | (refine w_ft ?_; assumption))) | (((with_reducible refine gS ?_); apply Es_xs); rfl; rfl; refine LStep_allocN (T := Try.tab) rfl rfl rfl rfl rfl rfl; rfl) | (((with_reducible refine gS ?_); apply Es_xn); rfl; rfl; (refine LStep_storeN (T := Try.tab) rfl rfl rfl rfl rfl rfl rfl ?_ rfl; (refine Nat.le_of_ble_eq_true ?_; rfl)); rfl) | (with_reducible refine Es_nil ?_) | (with_reducible refine then_n ?_) | (with_reducible refine block_n ?_))
    all_goals simp only [cmps] at *
    · refine ⟨(a ++ b, acc ++ [p], some (k2V p.1)), perm_mid hp, by simp, ?_, by (repeat' (first | exact trivial | exact rfl | (refine ⟨Or.inl rfl, ?_⟩) | (refine ⟨Or.inr rfl, ?_⟩) | (refine ⟨Or.inr trivial, ?_⟩) | (refine ⟨rfl, ?_⟩) | (refine ⟨?_, ?_⟩))), ?_, by (repeat' (first | exact trivial | exact rfl | (refine ⟨Or.inl rfl, ?_⟩) | (refine ⟨Or.inr rfl, ?_⟩) | (refine ⟨Or.inr trivial, ?_⟩) | (refine ⟨rfl, ?_⟩) | (refine ⟨?_, ?_⟩)))⟩
      · dsimp only; rw [curSum_snoc, if_pos (by assumption), ← wrp_add_l]; (repeat' (first | exact trivial | exact rfl | (refine ⟨Or.inl rfl, ?_⟩) | (refine ⟨Or.inr rfl, ?_⟩) | (refine ⟨Or.inr trivial, ?_⟩) | (refine ⟨rfl, ?_⟩) | (refine ⟨?_, ?_⟩)))
      · dsimp only; rw [etodo_join]; (repeat' (first | exact trivial | exact rfl | (refine ⟨Or.inl rfl, ?_⟩) | (refine ⟨Or.inr rfl, ?_⟩) | (refine ⟨Or.inr trivial, ?_⟩) | (refine ⟨rfl, ?_⟩) | (refine ⟨?_, ?_⟩)))
    · refine ⟨(a ++ b, acc ++ [p], some (k2V p.1)), perm_mid hp, by simp, ?_, by (repeat' (first | exact trivial | exact rfl | (refine ⟨Or.inl rfl, ?_⟩) | (refine ⟨Or.inr rfl, ?_⟩) | (refine ⟨Or.inr trivial, ?_⟩) | (refine ⟨rfl, ?_⟩) | (refine ⟨?_, ?_⟩))), ?_, by (repeat' (first | exact trivial | exact rfl | (refine ⟨Or.inl rfl, ?_⟩) | (refine ⟨Or.inr rfl, ?_⟩) | (refine ⟨Or.inr trivial, ?_⟩) | (refine ⟨rfl, ?_⟩) | (refine ⟨?_, ?_⟩)))⟩
      · dsimp only; rw [curSum_snoc, if_neg (by assumption), Int.add_zero]; (repeat' (first | exact trivial | exact rfl | (refine ⟨Or.inl rfl, ?_⟩) | (refine ⟨Or.inr rfl, ?_⟩) | (refine ⟨Or.inr trivial, ?_⟩) | (refine ⟨rfl, ?_⟩) | (refine ⟨?_, ?_⟩)))
      · dsimp only; rw [etodo_join]; (repeat' (first | exact trivial | exact rfl | (refine ⟨Or.inl rfl, ?_⟩) | (refine ⟨Or.inr rfl, ?_⟩) | (refine ⟨Or.inr trivial, ?_⟩) | (refine ⟨rfl, ?_⟩) | (refine ⟨?_, ?_⟩)))
  have hm0 := etodo_nil h0
  subst hm0
  rw [List.append_nil] at hp
  exact ⟨by rw [totS, curSum_perm hp], rfl, rfl, rfl, rfl, trivial⟩
/-! ### acts -/
structure Act where
  kind : Int
  a : ByteArray
  b : ByteArray
  c : ByteArray
  n : Int
  l : List Ent
def Act.cs (x : Act) : List AV := [.d (.sc (.int .u8 x.kind)), .d (.sc (.string x.a)), .d (.sc (.string x.b)), .d (.sc (.string x.c)), .d (.sc (.int .i64 x.n)), .d (.sl 3 (x.l.map Ent.enc))]
def Act.enc (x : Act) : List D := [.sc (.int .u8 x.kind), .sc (.string x.a), .sc (.string x.b), .sc (.string x.c), .sc (.int .i64 x.n), .sl 3 (x.l.map Ent.enc)]
def fewA (x : Act) : Bool := decide (x.a.size ≤ 60 ∧ x.l.length ≤ 70)
def fewL (l : List Act) : Bool := (l.all fewA) && decide (l.length ≤ 40)
theorem all_takeG {α : Type} {f : α → Bool} {l : List α} {k : Nat} {c : α} (hc : l[k]? = some c) (hf : (l.take k).all f = true) : (f c = true → (l.take (k + 1)).all f = true) ∧ (f c = false → l.all f = false) := by
  have h1 : (l.take (k + 1)).all f = f c := by rw [take_at hc, List.all_append, hf]; simp
  refine ⟨fun h => by rw [h1, h], fun h => ?_⟩
  rw [List.all_eq_false]
  exact ⟨c, List.mem_of_getElem? hc, by rw [h]; exact Bool.false_ne_true⟩
set_option maxRecDepth 10000 in
theorem few_ac (l : List Act) (hl : l.length ≤ 140737488351232) : AC Try.prog 11 [.d (.sl 6 (l.map Act.enc))] [] [] (fun r _ => r = .d (.sc (.bool (fewL l)))) := by
  refine AC_enter Try.func11 rfl Try.ntmps11 (rv := [.tmp 2]) rfl rfl (by simp) (fun w X G => ?_)
  repeat' (first | ((with_reducible refine gA ?_); (first | refine AW_seq ?_ | refine AW_region ?_ | refine AW_block ?_)) | ((with_reducible refine gS ?_); refine Es_s (T := Try.tab) rfl rfl rfl rfl ?_) | (with_reducible refine Es_nil ?_) | (with_reducible refine then_n ?_))
  refine AW_forE (S := Nat) (fun k => k ≤ l.length ∧ (l.take k).all fewA = true) (fun k => [(3, .d (.sc (.int .i64 (k : Nat))))]) (fun _ => []) (fun k => l.length - k) 0 ⟨by omega, by simp⟩ (by (repeat' (first | exact trivial | exact rfl | (refine ⟨Or.inl rfl, ?_⟩) | (refine ⟨Or.inr rfl, ?_⟩) | (refine ⟨Or.inr trivial, ?_⟩) | (refine ⟨rfl, ?_⟩) | (refine ⟨?_, ?_⟩)))) (by (repeat' (first | exact trivial | exact rfl | (refine ⟨Or.inl rfl, ?_⟩) | (refine ⟨Or.inr rfl, ?_⟩) | (refine ⟨Or.inr trivial, ?_⟩) | (refine ⟨rfl, ?_⟩) | (refine ⟨?_, ?_⟩)))) ?_
  intro k ⟨hk, hf⟩
  by_cases hlt : k < l.length
  · obtain ⟨e, he, _⟩ := drop_at hlt
    obtain ⟨f1, f2⟩ := all_takeG (f := fewA) he hf
    repeat' (first | ((with_reducible refine gA ?_); (first | refine AW_seq ?_ | refine AW_region ?_ | refine AW_condT rfl ?_ | (refine AW_cond rfl (fun hc => ?_) (fun hc => ?_) <;> try (exfalso; simp only [cmpL] at hc; omega)) | refine AW_block ?_ | refine AW_ret ?_ | refine AW_skip ?_)) | ((with_reducible refine gS ?_); refine Es_s (T := Try.tab) rfl rfl rfl rfl ?_) | (((with_reducible refine gS ?_); apply Es_q); rfl; (first | rfl | (refine w_ff ?_; assumption)); (first | refine LStep_simp (T := Try.tab) rfl rfl | refine LStep_lenM (T := Try.tab) rfl rfl rfl rfl | (refine LStep_add rfl rfl rfl rfl ?_; (refine IntWalk.i64_in _ ?_; first | omega | (simp only [cmps] at *; omega))) | refine LStep_wrap (T := Try.tab) rfl rfl | (refine LStep_pickT rfl rfl ?_ rfl rfl; assumption) | (refine LStep_pickF rfl rfl ?_ rfl rfl; assumption) | (refine LStep_indexM (T := Try.tab) (c := ?_) rfl rfl rfl rfl rfl rfl ?_; rotate_left; assumption))) | (refine Es_skip rfl ?_ rfl ?_; (first | rfl | (refine w_tf ?_; assumption) | (refine w_ft ?_; assumption))) | (refine Es_split rfl ?_ (fun _ => ?_) (fun _ => ?_); ((fail_if_success (refine und_t ?_; assumption)); (fail_if_success (refine und_f ?_; assumption)); exact trivial)) | (with_reducible refine Es_nil ?_) | (with_reducible refine then_n ?_) | (with_reducible refine then_r ?_) | (with_reducible refine block_n ?_) | (with_reducible refine block_r ?_) | ((with_reducible refine gR ?_); first | refine ret1 rfl ?_ | refine ret2 rfl rfl ?_ | refine ret0 ?_ | refine end1 rfl ?_ | refine end0 ?_))
    all_goals simp only [cmps] at *
    all_goals first
      | (refine ⟨k + 1, ?_, by omega, by (repeat' (first | exact trivial | exact rfl | (refine ⟨Or.inl rfl, ?_⟩) | (refine ⟨Or.inr rfl, ?_⟩) | (refine ⟨Or.inr trivial, ?_⟩) | (refine ⟨rfl, ?_⟩) | (refine ⟨?_, ?_⟩))), by (repeat' (first | exact trivial | exact rfl | (refine ⟨Or.inl rfl, ?_⟩) | (refine ⟨Or.inr rfl, ?_⟩) | (refine ⟨Or.inr trivial, ?_⟩) | (refine ⟨rfl, ?_⟩) | (refine ⟨?_, ?_⟩))), by (repeat' (first | exact trivial | exact rfl | (refine ⟨Or.inl rfl, ?_⟩) | (refine ⟨Or.inr rfl, ?_⟩) | (refine ⟨Or.inr trivial, ?_⟩) | (refine ⟨rfl, ?_⟩) | (refine ⟨?_, ?_⟩))), by (repeat' (first | exact trivial | exact rfl | (refine ⟨Or.inl rfl, ?_⟩) | (refine ⟨Or.inr rfl, ?_⟩) | (refine ⟨Or.inr trivial, ?_⟩) | (refine ⟨rfl, ?_⟩) | (refine ⟨?_, ?_⟩)))⟩; exact ⟨by omega, f1 (by unfold fewA; rw [decide_eq_true_eq]; omega)⟩)
      | (refine congrArg (fun b => AV.d (D.sc (Value.bool b))) ?_
         unfold fewL
         rw [f2 (by unfold fewA; rw [decide_eq_false_iff_not]; omega), Bool.false_and])
  have : k = l.length := by omega
  subst this
  rw [List.take_length] at hf
  clear hk hlt
  repeat' (first | ((with_reducible refine gA ?_); (first | refine AW_seq ?_ | refine AW_region ?_ | (refine AW_cond rfl (fun hc => ?_) (fun hc => ?_) <;> try (exfalso; simp only [cmpL] at hc; omega)) | refine AW_ret ?_ | refine AW_exit ?_)) | ((with_reducible refine gS ?_); refine Es_s (T := Try.tab) rfl rfl rfl rfl ?_) | (((with_reducible refine gS ?_); apply Es_q); rfl; rfl; refine LStep_lenM (T := Try.tab) rfl rfl rfl rfl) | (with_reducible refine Es_nil ?_) | (with_reducible refine then_n ?_) | (with_reducible refine then_e ?_) | ((with_reducible refine block_e ?_ ?_); rfl) | ((with_reducible refine gR ?_); first | refine ret1 rfl ?_ | refine ret2 rfl rfl ?_ | refine ret0 ?_ | refine end1 rfl ?_ | refine end0 ?_))
  refine congrArg (fun b => AV.d (D.sc (Value.bool b))) ?_
  unfold fewL
  rw [hf, Bool.true_and]
  unfold leb
  rw [decide_eq_decide]
  omega
theorem lstep_rem {P : Program} {O : Org} {env : Env} {h : Hp} {o : Oper} {t yt : Nat} {x y : Operand} {k : IntKind} {m n q : Int} (ho : o.op = .binOp .rem t x y yt) (hx : evalA env x = .d (.sc (.int k m))) (hy : evalA env y = .d (.sc (.int k n))) (hn : n ≠ 0) (hq : m.tmod n = q) (hd : dstOk o.dst O.nt = true) :
    LStep P O o env h [] [] (.d (.sc (.int k q))) [] := by
  subst hq
  refine .quiet hd (fun env' h' he _ a w G r => ?_)
  have h1 := evalA_rep r.env x
  have h2 := evalA_rep r.env y
  rw [he x (by simp [ho, Op.operands]), hx] at h1
  rw [he y (by simp [ho, Op.operands]), hy] at h2
  exact ⟨.int k (m.tmod n), by simp [execOp, ho, h1.sc_inv, h2.sc_inv, eqGuard, binOp, Op.intDiv, hn], .d _ _ (.sc _ rfl)⟩
def Act.k (x : Act) : Int := x.kind.tmod 5
def doS (s : Led) (x : Act) : Led :=
  if x.k = 0 then (openS s x.a x.c x.n).1 else if x.k = 1 then (if postE s x.a x.l = 0 then enterS s x.a x.l else s) else if x.k = 2 then holdS s x.a x.b x.c x.n
  else if x.k = 3 then (if takeE s x.a x.b x.n = 0 then takeS s x.a x.b x.n else s) else letS s x.a
def doN (s : Led) (x : Act) : Int := if x.k = 1 ∧ postE s x.a x.l = 0 then (s.P.length : Int) + 1 else 0
def doE (s : Led) (x : Act) : Int :=
  if x.k = 0 then (openS s x.a x.c x.n).2 else if x.k = 1 then postE s x.a x.l else if x.k = 2 then holdE s x.a x.b x.c x.n else if x.k = 3 then takeE s x.a x.b x.n else letE s x.a
def grows (s : Led) (x : Act) : Prop := (x.k = 1 ∧ postE s x.a x.l = 0) ∨ (x.k = 3 ∧ takeE s x.a x.b x.n = 0)
structure Led.Ok (s : Led) : Prop where
  nA : (akeys s.A).Nodup
  nH : (akeys s.H).Nodup
  lA : s.A.length ≤ 4096
  lP : s.P.length ≤ 4096
  lH : s.H.length ≤ 4096
  hold : ∀ id h, aget id s.H = some h → h.id = id ∧ aget h.key s.A ≠ none ∧ 1 ≤ h.amt ∧ h.amt ≤ 1099511627776
theorem Act.k_cases (x : Act) (hk : 0 ≤ x.kind) : x.k = 0 ∨ x.k = 1 ∨ x.k = 2 ∨ x.k = 3 ∨ x.k = 4 := by
  unfold Act.k
  rw [Int.tmod_eq_emod_of_nonneg hk]
  omega
theorem do_fin {s : Led} {n e : Int} {s' : Led} {x : Act} {h' : Hp} (h1 : n = doN s x) (h2 : e = doE s x) (h3 : s' = doS s x) (hs : SubH (hL s') h') : AV.tup [.d (.sc (.int .i64 n)), .d (.sc (.int .i64 e))] = .tup [.d (.sc (.int .i64 (doN s x))), .d (.sc (.int .i64 (doE s x)))] ∧ SubH (hL (doS s x)) h' := by
  rw [h1, h2, ← h3]; exact ⟨rfl, hs⟩
theorem openS_P (s : Led) (n c : ByteArray) (f : Int) : (openS s n c f).1.P = s.P := by
  unfold openS
  split
  · rfl
  split
  · rfl
  split
  · rfl
  split
  · rfl
  rfl
theorem holdS_P (s : Led) (i n c : ByteArray) (f : Int) : (holdS s i n c f).P = s.P := by unfold holdS; split <;> rfl
theorem letS_P (s : Led) (i : ByteArray) : (letS s i).P = s.P := by unfold letS; split <;> rfl
theorem take_grows {s : Led} {id to : ByteArray} {m : Int} (he : takeE s id to m = 0) : (s.P.map Post.enc).length < ((takeS s id to m).P.map Post.enc).length := by
  obtain ⟨h, a, h1, _⟩ := takeE_ok he
  unfold takeS
  rw [h1]
  exact enter_grows _ _ _
set_option maxRecDepth 10000 in
set_option maxHeartbeats 4000000 in
theorem doNo_ac (s : Led) (x : Act) (hs : s.Ok) (hk : 0 ≤ x.kind) (hg : ¬ grows s x) : AC Try.prog 14 [.ptr 1000 0, .agg x.cs] (hL s) [1000, 1001, 1002, 1003]
    (fun r h' => r = .tup [.d (.sc (.int .i64 (doN s x))), .d (.sc (.int .i64 (doE s x)))] ∧ SubH (hL (doS s x)) h') := by
  have h5 : x.kind.tmod 5 = x.k := rfl
  have h1 := hs.lA
  have h2 := hs.lP
  have h3 := hs.lH
  rcases x.k_cases hk with h | h | h | h | h
  · have cc := open_ac s x.a x.c x.n (by omega)
    have hP : (s.P.map Post.enc).length = ((openS s x.a x.c x.n).1.P.map Post.enc).length := by rw [openS_P]
    rw [h] at h5
    refine AC_enter Try.func14 rfl Try.ntmps14 (rv := [.tmp 4, .tmp 5]) rfl rfl (by simp) (fun w X G => ?_)
    repeat' (first | ((with_reducible refine gA ?_); (first | refine AW_seq ?_ | refine AW_region ?_ | (refine AW_cond rfl (fun hc => ?_) (fun hc => ?_) <;> try (exfalso; simp only [cmpL] at hc; omega)) | refine AW_block ?_ | refine AW_ret ?_)) | ((with_reducible refine gS ?_); refine Es_s (T := Try.tab) rfl rfl rfl rfl ?_) | (((with_reducible refine gS ?_); apply Es_q); rfl; rfl; refine lstep_rem rfl rfl rfl (by decide) h5 rfl) | (((with_reducible refine gS ?_); apply Es_xg); rfl; rfl; refine LStep_callHN [] [] cc rfl rfl ⟨rfl, rfl, rfl, rfl, trivial⟩ rfl ⟨trivial, trivial, hP, trivial, trivial⟩ rfl rfl; rfl) | (refine Es_skip rfl ?_ rfl ?_; (first | rfl | (refine w_tf ?_; assumption) | (refine w_ft ?_; assumption))) | (((with_reducible refine gS ?_); apply Es_xs); rfl; rfl; refine LStep_boxN rfl rfl rfl rfl rfl rfl; rfl) | (with_reducible refine Es_nil ?_) | (with_reducible refine then_n ?_) | (with_reducible refine then_r ?_) | (with_reducible refine block_r ?_) | ((with_reducible refine gR ?_); first | refine ret1 rfl ?_ | refine ret2 rfl rfl ?_ | refine ret0 ?_ | refine end1 rfl ?_ | refine end0 ?_))
    all_goals first
      | (exfalso; revert hc; decide)
      | skip
    refine do_fin ?_ ?_ ?_ ⟨rfl, rfl, rfl, rfl, trivial⟩
    · rw [doN, if_neg (by rw [h]; simp)]
    · rw [doE, if_pos h]
    · rw [doS, if_pos h]
  · have hq : postE s x.a x.l ≠ 0 := fun e => hg (.inl ⟨h, e⟩)
    have cc := postNo_ac s x.a x.l (by omega) hq
    have hP : True := trivial
    rw [h] at h5
    refine AC_enter Try.func14 rfl Try.ntmps14 (rv := [.tmp 4, .tmp 5]) rfl rfl (by simp) (fun w X G => ?_)
    repeat' (first | ((with_reducible refine gA ?_); (first | refine AW_seq ?_ | refine AW_region ?_ | (refine AW_cond rfl (fun hc => ?_) (fun hc => ?_) <;> try (exfalso; simp only [cmpL] at hc; omega)) | refine AW_block ?_ | refine AW_ret ?_)) | ((with_reducible refine gS ?_); refine Es_s (T := Try.tab) rfl rfl rfl rfl ?_) | (((with_reducible refine gS ?_); apply Es_q); rfl; rfl; refine lstep_rem rfl rfl rfl (by decide) h5 rfl) | (((with_reducible refine gS ?_); apply Es_xg); rfl; rfl; refine LStep_callHN [] [] cc rfl rfl ⟨rfl, rfl, rfl, rfl, trivial⟩ rfl ⟨trivial, trivial, rfl, trivial, trivial⟩ rfl rfl; rfl) | (refine Es_skip rfl ?_ rfl ?_; (first | rfl | (refine w_tf ?_; assumption) | (refine w_ft ?_; assumption))) | (((with_reducible refine gS ?_); apply Es_xs); rfl; rfl; refine LStep_boxN rfl rfl rfl rfl rfl rfl; rfl) | (with_reducible refine Es_nil ?_) | (with_reducible refine then_n ?_) | (with_reducible refine then_r ?_) | (with_reducible refine block_r ?_) | ((with_reducible refine gR ?_); first | refine ret1 rfl ?_ | refine ret2 rfl rfl ?_ | refine ret0 ?_ | refine end1 rfl ?_ | refine end0 ?_))
    all_goals first
      | (exfalso; revert hc; decide)
      | skip
    refine do_fin ?_ ?_ ?_ ⟨rfl, rfl, rfl, rfl, trivial⟩
    · rw [doN, if_neg (by rintro ⟨_, e⟩; exact hq e)]
    · rw [doE, if_neg (by rw [h]; decide), if_pos h]
    · rw [doS, if_neg (by rw [h]; decide), if_pos h, if_neg hq]
  · have cc := hold_ac s x.a x.b x.c x.n (by omega)
    have hP : (s.P.map Post.enc).length = ((holdS s x.a x.b x.c x.n).P.map Post.enc).length := by rw [holdS_P]
    rw [h] at h5
    refine AC_enter Try.func14 rfl Try.ntmps14 (rv := [.tmp 4, .tmp 5]) rfl rfl (by simp) (fun w X G => ?_)
    repeat' (first | ((with_reducible refine gA ?_); (first | refine AW_seq ?_ | refine AW_region ?_ | (refine AW_cond rfl (fun hc => ?_) (fun hc => ?_) <;> try (exfalso; simp only [cmpL] at hc; omega)) | refine AW_block ?_ | refine AW_ret ?_)) | ((with_reducible refine gS ?_); refine Es_s (T := Try.tab) rfl rfl rfl rfl ?_) | (((with_reducible refine gS ?_); apply Es_q); rfl; rfl; refine lstep_rem rfl rfl rfl (by decide) h5 rfl) | (((with_reducible refine gS ?_); apply Es_xg); rfl; rfl; refine LStep_callHN [] [] cc rfl rfl ⟨rfl, rfl, rfl, rfl, trivial⟩ rfl ⟨trivial, trivial, hP, trivial, trivial⟩ rfl rfl; rfl) | (refine Es_skip rfl ?_ rfl ?_; (first | rfl | (refine w_tf ?_; assumption) | (refine w_ft ?_; assumption))) | (((with_reducible refine gS ?_); apply Es_xs); rfl; rfl; refine LStep_boxN rfl rfl rfl rfl rfl rfl; rfl) | (with_reducible refine Es_nil ?_) | (with_reducible refine then_n ?_) | (with_reducible refine then_r ?_) | (with_reducible refine block_r ?_) | ((with_reducible refine gR ?_); first | refine ret1 rfl ?_ | refine ret2 rfl rfl ?_ | refine ret0 ?_ | refine end1 rfl ?_ | refine end0 ?_))
    all_goals first
      | (exfalso; revert hc; decide)
      | skip
    refine do_fin ?_ ?_ ?_ ⟨rfl, rfl, rfl, rfl, trivial⟩
    · rw [doN, if_neg (by rw [h]; simp)]
    · rw [doE, if_neg (by rw [h]; decide), if_neg (by rw [h]; decide), if_pos h]
    · rw [doS, if_neg (by rw [h]; decide), if_neg (by rw [h]; decide), if_pos h]
  · have hq : takeE s x.a x.b x.n ≠ 0 := fun e => hg (.inr ⟨h, e⟩)
    have cc := takeNo_ac s x.a x.b x.n (by omega) hq
    have hP : True := trivial
    rw [h] at h5
    refine AC_enter Try.func14 rfl Try.ntmps14 (rv := [.tmp 4, .tmp 5]) rfl rfl (by simp) (fun w X G => ?_)
    repeat' (first | ((with_reducible refine gA ?_); (first | refine AW_seq ?_ | refine AW_region ?_ | (refine AW_cond rfl (fun hc => ?_) (fun hc => ?_) <;> try (exfalso; simp only [cmpL] at hc; omega)) | refine AW_block ?_ | refine AW_ret ?_)) | ((with_reducible refine gS ?_); refine Es_s (T := Try.tab) rfl rfl rfl rfl ?_) | (((with_reducible refine gS ?_); apply Es_q); rfl; rfl; refine lstep_rem rfl rfl rfl (by decide) h5 rfl) | (((with_reducible refine gS ?_); apply Es_xg); rfl; rfl; refine LStep_callHN [] [] cc rfl rfl ⟨rfl, rfl, rfl, rfl, trivial⟩ rfl ⟨trivial, trivial, rfl, trivial, trivial⟩ rfl rfl; rfl) | (refine Es_skip rfl ?_ rfl ?_; (first | rfl | (refine w_tf ?_; assumption) | (refine w_ft ?_; assumption))) | (((with_reducible refine gS ?_); apply Es_xs); rfl; rfl; refine LStep_boxN rfl rfl rfl rfl rfl rfl; rfl) | (with_reducible refine Es_nil ?_) | (with_reducible refine then_n ?_) | (with_reducible refine then_r ?_) | (with_reducible refine block_r ?_) | ((with_reducible refine gR ?_); first | refine ret1 rfl ?_ | refine ret2 rfl rfl ?_ | refine ret0 ?_ | refine end1 rfl ?_ | refine end0 ?_))
    all_goals first
      | (exfalso; revert hc; decide)
      | skip
    refine do_fin ?_ ?_ ?_ ⟨rfl, rfl, rfl, rfl, trivial⟩
    · rw [doN, if_neg (by rw [h]; simp)]
    · rw [doE, if_neg (by rw [h]; decide), if_neg (by rw [h]; decide), if_neg (by rw [h]; decide), if_pos h]
    · rw [doS, if_neg (by rw [h]; decide), if_neg (by rw [h]; decide), if_neg (by rw [h]; decide), if_pos h, if_neg hq]
  · have cc := let_ac s x.a (fun q hq => (hs.hold _ _ hq).2.1)
    have hP : (s.P.map Post.enc).length = ((letS s x.a).P.map Post.enc).length := by rw [letS_P]
    rw [h] at h5
    refine AC_enter Try.func14 rfl Try.ntmps14 (rv := [.tmp 4, .tmp 5]) rfl rfl (by simp) (fun w X G => ?_)
    repeat' (first | ((with_reducible refine gA ?_); (first | refine AW_seq ?_ | refine AW_region ?_ | (refine AW_cond rfl (fun hc => ?_) (fun hc => ?_) <;> try (exfalso; simp only [cmpL] at hc; omega)) | refine AW_block ?_ | refine AW_ret ?_ | refine AW_skip ?_)) | ((with_reducible refine gS ?_); refine Es_s (T := Try.tab) rfl rfl rfl rfl ?_) | (((with_reducible refine gS ?_); apply Es_q); rfl; rfl; refine lstep_rem rfl rfl rfl (by decide) h5 rfl) | (((with_reducible refine gS ?_); apply Es_xg); rfl; rfl; refine LStep_callHN [] [] cc rfl rfl ⟨rfl, rfl, rfl, rfl, trivial⟩ rfl ⟨trivial, trivial, hP, trivial, trivial⟩ rfl rfl; rfl) | (refine Es_skip rfl ?_ rfl ?_; (first | rfl | (refine w_tf ?_; assumption) | (refine w_ft ?_; assumption))) | (((with_reducible refine gS ?_); apply Es_xs); rfl; rfl; refine LStep_boxN rfl rfl rfl rfl rfl rfl; rfl) | (with_reducible refine Es_nil ?_) | (with_reducible refine then_n ?_) | (with_reducible refine block_n ?_) | ((with_reducible refine gR ?_); first | refine ret1 rfl ?_ | refine ret2 rfl rfl ?_ | refine ret0 ?_ | refine end1 rfl ?_ | refine end0 ?_))
    all_goals first
      | (exfalso; revert hc; decide)
      | skip
    refine do_fin ?_ ?_ ?_ ⟨rfl, rfl, rfl, rfl, trivial⟩
    · rw [doN, if_neg (by rw [h]; simp)]
    · rw [doE, if_neg (by rw [h]; decide), if_neg (by rw [h]; decide), if_neg (by rw [h]; decide), if_neg (by rw [h]; decide)]
    · rw [doS, if_neg (by rw [h]; decide), if_neg (by rw [h]; decide), if_neg (by rw [h]; decide), if_neg (by rw [h]; decide)]
set_option maxRecDepth 10000 in
set_option maxHeartbeats 4000000 in
theorem doOk_ac (s : Led) (x : Act) (hs : s.Ok) (_ : 0 ≤ x.kind) (hx : x.a.size ≤ 1048576) (hg : grows s x) : AC Try.prog 14 [.ptr 1000 0, .agg x.cs] (hL s) [1000, 1001, 1003]
    (fun r h' => r = .tup [.d (.sc (.int .i64 (doN s x))), .d (.sc (.int .i64 (doE s x)))] ∧ SubH (hL (doS s x)) h') := by
  have h5 : x.kind.tmod 5 = x.k := rfl
  rcases hg with ⟨h, hq⟩ | ⟨h, hq⟩
  · have cc := postOk_ac s x.a x.l hs.nA hq
    have hP := enter_grows s x.a x.l
    rw [h] at h5
    refine AC_enter Try.func14 rfl Try.ntmps14 (rv := [.tmp 4, .tmp 5]) rfl rfl (by simp) (fun w X G => ?_)
    repeat' (first | ((with_reducible refine gA ?_); (first | refine AW_seq ?_ | refine AW_region ?_ | (refine AW_cond rfl (fun hc => ?_) (fun hc => ?_) <;> try (exfalso; simp only [cmpL] at hc; omega)) | refine AW_block ?_ | refine AW_ret ?_)) | ((with_reducible refine gS ?_); refine Es_s (T := Try.tab) rfl rfl rfl rfl ?_) | (((with_reducible refine gS ?_); apply Es_q); rfl; rfl; refine lstep_rem rfl rfl rfl (by decide) h5 rfl) | (((with_reducible refine gS ?_); apply Es_xg); rfl; rfl; refine LStep_callGN [1002] [] [] cc rfl rfl ⟨rfl, rfl, rfl, rfl, trivial⟩ rfl ⟨trivial, trivial, hP, trivial, trivial⟩ rfl rfl; rfl) | (refine Es_skip rfl ?_ rfl ?_; (first | rfl | (refine w_tf ?_; assumption) | (refine w_ft ?_; assumption))) | (((with_reducible refine gS ?_); apply Es_xs); rfl; rfl; refine LStep_boxN rfl rfl rfl rfl rfl rfl; rfl) | (with_reducible refine Es_nil ?_) | (with_reducible refine then_n ?_) | (with_reducible refine then_r ?_) | (with_reducible refine block_r ?_) | ((with_reducible refine gR ?_); first | refine ret1 rfl ?_ | refine ret2 rfl rfl ?_ | refine ret0 ?_ | refine end1 rfl ?_ | refine end0 ?_))
    all_goals first
      | (exfalso; revert hc; decide)
      | skip
    refine do_fin ?_ ?_ ?_ ⟨rfl, rfl, rfl, rfl, trivial⟩
    · rw [doN, if_pos ⟨h, hq⟩]
    · rw [doE, if_neg (by rw [h]; decide), if_pos h, hq]
    · rw [doS, if_neg (by rw [h]; decide), if_pos h, if_pos hq]
  · have cc := takeOk_ac s x.a x.b x.n hs.nA hx (fun q hq => ⟨(hs.hold _ _ hq).2.1, (hs.hold _ _ hq).2.2.2⟩) hq
    have hP := take_grows hq
    rw [h] at h5
    refine AC_enter Try.func14 rfl Try.ntmps14 (rv := [.tmp 4, .tmp 5]) rfl rfl (by simp) (fun w X G => ?_)
    repeat' (first | ((with_reducible refine gA ?_); (first | refine AW_seq ?_ | refine AW_region ?_ | (refine AW_cond rfl (fun hc => ?_) (fun hc => ?_) <;> try (exfalso; simp only [cmpL] at hc; omega)) | refine AW_block ?_ | refine AW_ret ?_)) | ((with_reducible refine gS ?_); refine Es_s (T := Try.tab) rfl rfl rfl rfl ?_) | (((with_reducible refine gS ?_); apply Es_q); rfl; rfl; refine lstep_rem rfl rfl rfl (by decide) h5 rfl) | (((with_reducible refine gS ?_); apply Es_xg); rfl; rfl; refine LStep_callGN [1002] [] [] cc rfl rfl ⟨rfl, rfl, rfl, rfl, trivial⟩ rfl ⟨trivial, trivial, hP, trivial, trivial⟩ rfl rfl; rfl) | (refine Es_skip rfl ?_ rfl ?_; (first | rfl | (refine w_tf ?_; assumption) | (refine w_ft ?_; assumption))) | (((with_reducible refine gS ?_); apply Es_xs); rfl; rfl; refine LStep_boxN rfl rfl rfl rfl rfl rfl; rfl) | (with_reducible refine Es_nil ?_) | (with_reducible refine then_n ?_) | (with_reducible refine then_r ?_) | (with_reducible refine block_r ?_) | ((with_reducible refine gR ?_); first | refine ret1 rfl ?_ | refine ret2 rfl rfl ?_ | refine ret0 ?_ | refine end1 rfl ?_ | refine end0 ?_))
    all_goals first
      | (exfalso; revert hc; decide)
      | skip
    refine do_fin ?_ ?_ ?_ ⟨rfl, rfl, rfl, rfl, trivial⟩
    · rw [doN, if_neg (by rw [h]; simp)]
    · rw [doE, if_neg (by rw [h]; decide), if_neg (by rw [h]; decide), if_neg (by rw [h]; decide), if_pos h, hq]
    · rw [doS, if_neg (by rw [h]; decide), if_neg (by rw [h]; decide), if_neg (by rw [h]; decide), if_pos h, if_pos hq]
end Go.Proofs.Ytbekoielblcbmaa
