import Derived.Test.YtofdnkgieigncaaQ0
namespace Go.Proofs.Ytofdnkgieigncaa
open Go.SL

/-! ### ledger.isName, isCurrency, free, New -/
def lchB (c : UInt8) : Bool := (decide (97 ≤ c.toNat) && decide (c.toNat ≤ 122)) || (decide (48 ≤ c.toNat) && decide (c.toNat ≤ 57)) || decide (c.toNat = 45) || decide (c.toNat = 58)
def lnameOk (s : ByteArray) : Bool := decide (1 ≤ s.size) && decide (s.size ≤ 32) && s.data.toList.all lchB
def lcuB (c : UInt8) : Bool := decide (65 ≤ c.toNat) && decide (c.toNat ≤ 90)
def lcurOk (s : ByteArray) : Bool := decide (s.size = 3) && s.data.toList.all lcuB
theorem all_take {f : UInt8 → Bool} {l : List UInt8} {k : Nat} {c : UInt8} (hc : l[k]? = some c) (hf : (l.take k).all f = true) : (f c = true → (l.take (k + 1)).all f = true) ∧ (f c = false → l.all f = false) := by
  have h1 : (l.take (k + 1)).all f = f c := by rw [take_at hc, List.all_append, hf]; simp
  refine ⟨fun h => by rw [h1, h], fun h => ?_⟩
  rw [List.all_eq_false]
  exact ⟨c, List.mem_of_getElem? hc, by simp [h]⟩
set_option maxRecDepth 10000 in
set_option maxHeartbeats 1000000 in
theorem isName_ac (s : ByteArray) : AC Try.prog 16 [.d (.sc (.string s))] [] [] (fun r _ => r = .d (.sc (.bool (lnameOk s)))) := by
  have hlen : s.data.toList.length = s.size := rfl
  refine AC_enter Try.func16 rfl Try.ntmps16 (rv := [.tmp 2]) rfl rfl (by simp) (fun w X G => ?_)
  repeat' (first | ((with_reducible refine gA ?_); (first | refine AW_seq ?_ | refine AW_region ?_ | refine AW_condT rfl ?_ | (refine AW_cond rfl (fun hc => ?_) (fun hc => ?_) <;> try (exfalso; simp only [cmpL] at hc; omega)) | refine AW_block ?_ | refine AW_ret ?_ | refine AW_skip ?_)) | ((with_reducible refine gS ?_); refine Es_s (T := Try.tab) rfl rfl rfl rfl ?_) | (((with_reducible refine gS ?_); apply Es_q); rfl; (first | rfl | (refine w_ff ?_; assumption)); (first | refine LStep_simp (T := Try.tab) rfl rfl | refine LStep_wrap (T := Try.tab) rfl rfl | (refine LStep_pickT rfl rfl ?_ rfl rfl; assumption) | (refine LStep_pickF rfl rfl ?_ rfl rfl; assumption))) | (refine Es_skip rfl ?_ rfl ?_; (first | rfl | (refine w_tf ?_; assumption) | (refine w_ft ?_; assumption))) | (refine Es_split rfl ?_ (fun _ => ?_) (fun _ => ?_); ((fail_if_success (refine und_t ?_; assumption)); (fail_if_success (refine und_f ?_; assumption)); exact trivial)) | (with_reducible refine Es_nil ?_) | (with_reducible refine then_n ?_) | (with_reducible refine then_r ?_) | ((with_reducible refine gR ?_); first | refine ret1 rfl ?_ | refine ret2 rfl rfl ?_ | refine ret0 ?_ | refine end1 rfl ?_ | refine end0 ?_))
  all_goals simp only [cmps] at *
  · refine congrArg (fun b => AV.d (D.sc (Value.bool b))) ?_; simp [lnameOk]; omega
  · refine congrArg (fun b => AV.d (D.sc (Value.bool b))) ?_; simp [lnameOk]; omega
  have hall : lnameOk s = s.data.toList.all lchB := by
    have e1 : 1 ≤ s.size := by omega
    have e2 : s.size ≤ 32 := by omega
    simp [lnameOk, e1, e2]
  rw [hall]
  clear hall
  refine AW_forE (S := Nat) (fun k => k ≤ s.size ∧ (s.data.toList.take k).all lchB = true) (fun k => [(15, .d (.sc (.int .i64 (k : Nat))))]) (fun _ => []) (fun k => s.size - k) 0 ⟨by omega, by simp⟩ (by (repeat' (first | exact trivial | exact rfl | (refine ⟨Or.inl rfl, ?_⟩) | (refine ⟨Or.inr rfl, ?_⟩) | (refine ⟨Or.inr trivial, ?_⟩) | (refine ⟨rfl, ?_⟩) | (refine ⟨?_, ?_⟩)))) (by (repeat' (first | exact trivial | exact rfl | (refine ⟨Or.inl rfl, ?_⟩) | (refine ⟨Or.inr rfl, ?_⟩) | (refine ⟨Or.inr trivial, ?_⟩) | (refine ⟨rfl, ?_⟩) | (refine ⟨?_, ?_⟩)))) ?_
  intro k ⟨hk, hf⟩
  by_cases hlt : k < s.size
  · obtain ⟨c, hc, _⟩ := drop_at (l := s.data.toList) (show k < s.data.toList.length by omega)
    have hc' : s.data.toList[((k : Nat) : Int).toNat]? = some c := by rw [Int.toNat_natCast]; exact hc
    obtain ⟨hy, hn⟩ := all_take (f := lchB) hc hf
    repeat' (first | ((with_reducible refine gA ?_); (first | refine AW_seq ?_ | refine AW_region ?_ | refine AW_condF rfl ?_ | (refine AW_cond rfl (fun hc => ?_) (fun hc => ?_) <;> try (exfalso; simp only [cmpL] at hc; omega)) | refine AW_block ?_ | refine AW_ret ?_ | refine AW_skip ?_)) | ((with_reducible refine gS ?_); refine Es_s (T := Try.tab) rfl rfl rfl rfl ?_) | (((with_reducible refine gS ?_); apply Es_q); rfl; (first | rfl | (refine w_tt ?_; assumption) | (refine w_ff ?_; assumption)); (first | refine LStep_simp (T := Try.tab) rfl rfl | (refine LStep_add rfl rfl rfl rfl ?_; (refine IntWalk.i64_in _ ?_; first | omega | (simp only [cmps] at *; omega))) | (refine LStep_pickT rfl rfl ?_ rfl rfl; assumption) | (refine LStep_pickF rfl rfl ?_ rfl rfl; assumption) | (refine LStep_byteM (T := Try.tab) (c := ?_) rfl rfl rfl rfl rfl ?_; rotate_left; assumption))) | (refine Es_skip rfl ?_ rfl ?_; (first | rfl | (refine w_tf ?_; assumption) | (refine w_ft ?_; assumption))) | (refine Es_split rfl ?_ (fun _ => ?_) (fun _ => ?_); ((fail_if_success (refine und_t ?_; assumption)); (fail_if_success (refine und_f ?_; assumption)); exact trivial)) | (with_reducible refine Es_nil ?_) | (with_reducible refine then_n ?_) | (with_reducible refine then_r ?_) | (with_reducible refine block_n ?_) | (with_reducible refine block_r ?_) | ((with_reducible refine gR ?_); first | refine ret1 rfl ?_ | refine ret2 rfl rfl ?_ | refine ret0 ?_ | refine end1 rfl ?_ | refine end0 ?_))
    all_goals simp only [cmps] at *
    all_goals first
      | (have h : lchB c = true := by simp [lchB]; omega
         refine ⟨k + 1, ?_, by omega, by (repeat' (first | exact trivial | exact rfl | (refine ⟨Or.inl rfl, ?_⟩) | (refine ⟨Or.inr rfl, ?_⟩) | (refine ⟨Or.inr trivial, ?_⟩) | (refine ⟨rfl, ?_⟩) | (refine ⟨?_, ?_⟩))), by (repeat' (first | exact trivial | exact rfl | (refine ⟨Or.inl rfl, ?_⟩) | (refine ⟨Or.inr rfl, ?_⟩) | (refine ⟨Or.inr trivial, ?_⟩) | (refine ⟨rfl, ?_⟩) | (refine ⟨?_, ?_⟩))), by (repeat' (first | exact trivial | exact rfl | (refine ⟨Or.inl rfl, ?_⟩) | (refine ⟨Or.inr rfl, ?_⟩) | (refine ⟨Or.inr trivial, ?_⟩) | (refine ⟨rfl, ?_⟩) | (refine ⟨?_, ?_⟩))), by (repeat' (first | exact trivial | exact rfl | (refine ⟨Or.inl rfl, ?_⟩) | (refine ⟨Or.inr rfl, ?_⟩) | (refine ⟨Or.inr trivial, ?_⟩) | (refine ⟨rfl, ?_⟩) | (refine ⟨?_, ?_⟩)))⟩; exact ⟨by omega, hy h⟩)
      | (have h : lchB c = false := by simp [lchB]; omega
         refine congrArg (fun b => AV.d (D.sc (Value.bool b))) ?_; rw [hn h])
  · have : k = s.size := by omega
    subst this
    rw [← hlen, List.take_length] at hf
    repeat' (first | ((with_reducible refine gA ?_); (first | refine AW_seq ?_ | refine AW_region ?_ | (refine AW_cond rfl (fun hc => ?_) (fun hc => ?_) <;> try (exfalso; simp only [cmpL] at hc; omega)) | refine AW_ret ?_ | refine AW_exit ?_)) | ((with_reducible refine gS ?_); refine Es_s (T := Try.tab) rfl rfl rfl rfl ?_) | (with_reducible refine Es_nil ?_) | (with_reducible refine then_n ?_) | (with_reducible refine then_e ?_) | ((with_reducible refine block_e ?_ ?_); rfl) | ((with_reducible refine gR ?_); first | refine ret1 rfl ?_ | refine ret2 rfl rfl ?_ | refine ret0 ?_ | refine end1 rfl ?_ | refine end0 ?_))
    refine congrArg (fun b => AV.d (D.sc (Value.bool b))) ?_; rw [hf]
set_option maxRecDepth 10000 in
set_option maxHeartbeats 1000000 in
theorem isCurrency_ac (s : ByteArray) : AC Try.prog 17 [.d (.sc (.string s))] [] [] (fun r _ => r = .d (.sc (.bool (lcurOk s)))) := by
  have hlen : s.data.toList.length = s.size := rfl
  refine AC_enter Try.func17 rfl Try.ntmps17 (rv := [.tmp 2]) rfl rfl (by simp) (fun w X G => ?_)
  repeat' (first | ((with_reducible refine gA ?_); (first | refine AW_seq ?_ | refine AW_region ?_ | (refine AW_cond rfl (fun hc => ?_) (fun hc => ?_) <;> try (exfalso; simp only [cmpL] at hc; omega)) | refine AW_block ?_ | refine AW_ret ?_ | refine AW_skip ?_)) | ((with_reducible refine gS ?_); refine Es_s (T := Try.tab) rfl rfl rfl rfl ?_) | (((with_reducible refine gS ?_); apply Es_q); rfl; rfl; refine LStep_wrap (T := Try.tab) rfl rfl) | (with_reducible refine Es_nil ?_) | (with_reducible refine then_n ?_) | (with_reducible refine then_r ?_) | ((with_reducible refine gR ?_); first | refine ret1 rfl ?_ | refine ret2 rfl rfl ?_ | refine ret0 ?_ | refine end1 rfl ?_ | refine end0 ?_))
  all_goals simp only [cmps] at *
  · refine congrArg (fun b => AV.d (D.sc (Value.bool b))) ?_; simp [lcurOk]; omega
  have hall : lcurOk s = s.data.toList.all lcuB := by
    have e1 : s.size = 3 := by omega
    simp [lcurOk, e1]
  rw [hall]
  clear hall
  refine AW_forE (S := Nat) (fun k => k ≤ s.size ∧ (s.data.toList.take k).all lcuB = true) (fun k => [(9, .d (.sc (.int .i64 (k : Nat))))]) (fun _ => []) (fun k => s.size - k) 0 ⟨by omega, by simp⟩ (by (repeat' (first | exact trivial | exact rfl | (refine ⟨Or.inl rfl, ?_⟩) | (refine ⟨Or.inr rfl, ?_⟩) | (refine ⟨Or.inr trivial, ?_⟩) | (refine ⟨rfl, ?_⟩) | (refine ⟨?_, ?_⟩)))) (by (repeat' (first | exact trivial | exact rfl | (refine ⟨Or.inl rfl, ?_⟩) | (refine ⟨Or.inr rfl, ?_⟩) | (refine ⟨Or.inr trivial, ?_⟩) | (refine ⟨rfl, ?_⟩) | (refine ⟨?_, ?_⟩)))) ?_
  intro k ⟨hk, hf⟩
  by_cases hlt : k < s.size
  · obtain ⟨c, hc, _⟩ := drop_at (l := s.data.toList) (show k < s.data.toList.length by omega)
    have hc' : s.data.toList[((k : Nat) : Int).toNat]? = some c := by rw [Int.toNat_natCast]; exact hc
    obtain ⟨hy, hn⟩ := all_take (f := lcuB) hc hf
    repeat' (first | ((with_reducible refine gA ?_); (first | refine AW_seq ?_ | refine AW_region ?_ | refine AW_condT rfl ?_ | (refine AW_cond rfl (fun hc => ?_) (fun hc => ?_) <;> try (exfalso; simp only [cmpL] at hc; omega)) | refine AW_block ?_ | refine AW_ret ?_ | refine AW_skip ?_)) | ((with_reducible refine gS ?_); refine Es_s (T := Try.tab) rfl rfl rfl rfl ?_) | (((with_reducible refine gS ?_); apply Es_q); rfl; (first | rfl | (refine w_ff ?_; assumption)); (first | refine LStep_simp (T := Try.tab) rfl rfl | (refine LStep_add rfl rfl rfl rfl ?_; (refine IntWalk.i64_in _ ?_; first | omega | (simp only [cmps] at *; omega))) | (refine LStep_pickT rfl rfl ?_ rfl rfl; assumption) | (refine LStep_pickF rfl rfl ?_ rfl rfl; assumption) | (refine LStep_byteM (T := Try.tab) (c := ?_) rfl rfl rfl rfl rfl ?_; rotate_left; assumption))) | (refine Es_skip rfl ?_ rfl ?_; (first | rfl | (refine w_tf ?_; assumption) | (refine w_ft ?_; assumption))) | (refine Es_split rfl ?_ (fun _ => ?_) (fun _ => ?_); ((fail_if_success (refine und_t ?_; assumption)); (fail_if_success (refine und_f ?_; assumption)); exact trivial)) | (with_reducible refine Es_nil ?_) | (with_reducible refine then_n ?_) | (with_reducible refine then_r ?_) | (with_reducible refine block_n ?_) | (with_reducible refine block_r ?_) | ((with_reducible refine gR ?_); first | refine ret1 rfl ?_ | refine ret2 rfl rfl ?_ | refine ret0 ?_ | refine end1 rfl ?_ | refine end0 ?_))
    all_goals simp only [cmps] at *
    all_goals first
      | (have h : lcuB c = true := by simp [lcuB]; omega
         refine ⟨k + 1, ?_, by omega, by (repeat' (first | exact trivial | exact rfl | (refine ⟨Or.inl rfl, ?_⟩) | (refine ⟨Or.inr rfl, ?_⟩) | (refine ⟨Or.inr trivial, ?_⟩) | (refine ⟨rfl, ?_⟩) | (refine ⟨?_, ?_⟩))), by (repeat' (first | exact trivial | exact rfl | (refine ⟨Or.inl rfl, ?_⟩) | (refine ⟨Or.inr rfl, ?_⟩) | (refine ⟨Or.inr trivial, ?_⟩) | (refine ⟨rfl, ?_⟩) | (refine ⟨?_, ?_⟩))), by (repeat' (first | exact trivial | exact rfl | (refine ⟨Or.inl rfl, ?_⟩) | (refine ⟨Or.inr rfl, ?_⟩) | (refine ⟨Or.inr trivial, ?_⟩) | (refine ⟨rfl, ?_⟩) | (refine ⟨?_, ?_⟩))), by (repeat' (first | exact trivial | exact rfl | (refine ⟨Or.inl rfl, ?_⟩) | (refine ⟨Or.inr rfl, ?_⟩) | (refine ⟨Or.inr trivial, ?_⟩) | (refine ⟨rfl, ?_⟩) | (refine ⟨?_, ?_⟩)))⟩; exact ⟨by omega, hy h⟩)
      | (have h : lcuB c = false := by simp [lcuB]; omega
         refine congrArg (fun b => AV.d (D.sc (Value.bool b))) ?_; rw [hn h])
  · have : k = s.size := by omega
    subst this
    rw [← hlen, List.take_length] at hf
    repeat' (first | ((with_reducible refine gA ?_); (first | refine AW_seq ?_ | refine AW_region ?_ | (refine AW_cond rfl (fun hc => ?_) (fun hc => ?_) <;> try (exfalso; simp only [cmpL] at hc; omega)) | refine AW_ret ?_ | refine AW_exit ?_)) | ((with_reducible refine gS ?_); refine Es_s (T := Try.tab) rfl rfl rfl rfl ?_) | (with_reducible refine Es_nil ?_) | (with_reducible refine then_n ?_) | (with_reducible refine then_e ?_) | ((with_reducible refine block_e ?_ ?_); rfl) | ((with_reducible refine gR ?_); first | refine ret1 rfl ?_ | refine ret2 rfl rfl ?_ | refine ret0 ?_ | refine end1 rfl ?_ | refine end0 ?_))
    refine congrArg (fun b => AV.d (D.sc (Value.bool b))) ?_; rw [hf]
/-- an account: floor, balance, held -/
structure Acc where
  floor : Int
  bal : Int
  held : Int
def Acc.cs (x : Acc) : List AV := [.d (.sc (.int .i64 x.floor)), .d (.sc (.int .i64 x.bal)), .d (.sc (.int .i64 x.held))]
theorem lstep_makeMapT {P : Program} {O : Org} {T : Tab P} {o : Oper} {env : Env} {h : Hp} {t kt et id : Nat} (ho : o.op = .makeMap t none) (_hT : T.desc t = some (.map kt et)) (hd : o.dst = some id) (hn : dstOk (some id) O.nt = true) (hi : O.ids.contains id = false) :
    LStep P O o env h [] [id] (.mp id) [(id, some (.map kt et [] none))] := LStep_makeMap ho hd hn hi

/-! ### ledger.changes -/
def chgK (m : List (K2 × Int)) (e : Ent) : List (K2 × Int) := aput (e.acct, e.cur) ((aget (e.acct, e.cur) m).getD 0 + e.amt) m
def chgL (l : List Ent) : List (K2 × Int) := l.foldl chgK []
def sumK (m : List (ByteArray × Int)) (e : Ent) : List (ByteArray × Int) := aput e.cur ((aget e.cur m).getD 0 + e.amt) m
def sumL (l : List Ent) : List (ByteArray × Int) := l.foldl sumK []
theorem chgL_snoc (l : List Ent) (e : Ent) : chgL (l ++ [e]) = chgK (chgL l) e := by unfold chgL; rw [List.foldl_append]; rfl
theorem sumL_snoc (l : List Ent) (e : Ent) : sumL (l ++ [e]) = sumK (sumL l) e := by unfold sumL; rw [List.foldl_append]; rfl
def Ent.in40 (e : Ent) : Prop := -1099511627776 ≤ e.amt ∧ e.amt ≤ 1099511627776
theorem chgL_in (l : List Ent) : (∀ e ∈ l, e.in40) → ∀ k, -(1099511627776 * (l.length : Int)) ≤ (aget k (chgL l)).getD 0 ∧ (aget k (chgL l)).getD 0 ≤ 1099511627776 * (l.length : Int) := by
  refine list_snoc (p := fun l => (∀ e ∈ l, e.in40) → ∀ k, -(1099511627776 * (l.length : Int)) ≤ (aget k (chgL l)).getD 0 ∧ (aget k (chgL l)).getD 0 ≤ 1099511627776 * (l.length : Int)) (fun _ k => by simp [chgL, aget]) (fun l e ih h k => ?_) l
  have h1 := ih (fun e' he => h e' (List.mem_append_left _ he))
  have h2 : e.in40 := h e (by simp)
  unfold Ent.in40 at h2
  rw [chgL_snoc, chgK, aget_put, List.length_append, List.length_singleton]
  have g1 := h1 k
  have g2 := h1 (e.acct, e.cur)
  split
  · rw [Option.getD_some]; omega
  · omega
theorem sumL_in (l : List Ent) : (∀ e ∈ l, e.in40) → ∀ k, -(1099511627776 * (l.length : Int)) ≤ (aget k (sumL l)).getD 0 ∧ (aget k (sumL l)).getD 0 ≤ 1099511627776 * (l.length : Int) := by
  refine list_snoc (p := fun l => (∀ e ∈ l, e.in40) → ∀ k, -(1099511627776 * (l.length : Int)) ≤ (aget k (sumL l)).getD 0 ∧ (aget k (sumL l)).getD 0 ≤ 1099511627776 * (l.length : Int)) (fun _ k => by simp [sumL, aget]) (fun l e ih h k => ?_) l
  have h1 := ih (fun e' he => h e' (List.mem_append_left _ he))
  have h2 : e.in40 := h e (by simp)
  unfold Ent.in40 at h2
  rw [sumL_snoc, sumK, aget_put, List.length_append, List.length_singleton]
  have g1 := h1 k
  have g2 := h1 e.cur
  split
  · rw [Option.getD_some]; omega
  · omega
theorem keyK2 : Try.tab.keyD 70 = some (.st [.string, .string]) := by kernel_rfl
theorem k2V_keyB (k : K2) : keyB (.st [.string, .string]) (k2V k) = true := rfl
theorem sV_keyB (k : ByteArray) : keyB .string (sV k) = true := rfl
theorem k2_keys {α : Type} {cv : α → AV} (l : List (K2 × α)) : ∀ p ∈ emap k2V cv l, keyB (.st [.string, .string]) p.1 = true := emap_keys (q := fun v => keyB (.st [.string, .string]) v = true) k2V_keyB
theorem s_keys {α : Type} {cv : α → AV} (l : List (ByteArray × α)) : ∀ p ∈ emap sV cv l, keyB .string p.1 = true := emap_keys (q := fun v => keyB .string v = true) sV_keyB
set_option maxRecDepth 10000 in
set_option maxHeartbeats 2000000 in
theorem changes_ac (l : List Ent) (hl : l.length ≤ 4096) (hr : ∀ e ∈ l, e.in40) : AC Try.prog 36 [.d (.sl 3 (l.map Ent.enc))] [] []
    (fun r h' => r = .tup [.mp 8, .mp 9] ∧ SubH [(8, some (.map 70 2 (emap k2V iV (chgL l)) none)), (9, some (.map 9 2 (emap sV iV (sumL l)) none))] h') := by
  refine AC_enter Try.func36 rfl Try.ntmps36 (rv := [.tmp 2, .tmp 3]) rfl rfl (by simp) (fun w X G => ?_)
  repeat' (first | ((with_reducible refine gA ?_); (first | refine AW_seq ?_ | refine AW_region ?_ | refine AW_block ?_)) | ((with_reducible refine gS ?_); refine Es_s (T := Try.tab) rfl rfl rfl rfl ?_) | (((with_reducible refine gS ?_); apply Es_xs); rfl; rfl; (first | refine LStep_makeMapF (T := Try.tab) (kt := 70) rfl rfl rfl rfl rfl | refine lstep_makeMapT (T := Try.tab) (kt := 9) rfl rfl rfl rfl rfl); rfl) | (((with_reducible refine gS ?_); apply Es_q); rfl; rfl; refine LStep_lenM (T := Try.tab) rfl rfl rfl rfl) | (with_reducible refine Es_nil ?_) | (with_reducible refine then_n ?_))
  refine AW_forE (S := Nat) (fun k => k ≤ l.length) (fun k => [(12, .d (.sc (.int .i64 (k : Nat))))]) (fun k => [(8, some (.mapF 70 2 (emap k2V iV (chgL (l.take k))))), (9, some (.map 9 2 (emap sV iV (sumL (l.take k))) none))]) (fun k => l.length - k) 0 (by omega) (by (repeat' (first | exact trivial | exact rfl | (refine ⟨Or.inl rfl, ?_⟩) | (refine ⟨Or.inr rfl, ?_⟩) | (refine ⟨Or.inr trivial, ?_⟩) | (refine ⟨rfl, ?_⟩) | (refine ⟨?_, ?_⟩)))) (by (repeat' (first | exact trivial | exact rfl | (refine ⟨Or.inl rfl, ?_⟩) | (refine ⟨Or.inr rfl, ?_⟩) | (refine ⟨Or.inr trivial, ?_⟩) | (refine ⟨rfl, ?_⟩) | (refine ⟨?_, ?_⟩)))) ?_
  intro k hk
  by_cases hlt : k < l.length
  · obtain ⟨e, he, _⟩ := drop_at hlt
    have h2 : e.in40 := hr e (List.mem_of_getElem? he)
    have hin : ∀ e ∈ l.take k, e.in40 := fun e he => hr e (List.mem_of_mem_take he)
    have g1 := chgL_in (l.take k) hin (e.acct, e.cur)
    have g2 := sumL_in (l.take k) hin e.cur
    have hlen : (l.take k).length = k := by rw [List.length_take]; omega
    have t1 : chgL (l.take (k + 1)) = chgK (chgL (l.take k)) e := by rw [take_at he, chgL_snoc]
    have t2 : sumL (l.take (k + 1)) = sumK (sumL (l.take k)) e := by rw [take_at he, sumL_snoc]
    rw [hlen] at g1 g2
    unfold chgK at t1
    unfold sumK at t2
    unfold Ent.in40 at h2
    clear hr hin hlen
    generalize chgL (l.take k) = m at *
    generalize sumL (l.take k) = sm at *
    have f1 : (mfind (k2V (e.acct, e.cur)) (emap k2V iV m)).getD (iV 0) = iV ((aget (e.acct, e.cur) m).getD 0) := by rw [mfind_emap k2V_keq]; cases aget (e.acct, e.cur) m <;> rfl
    have f2 : (mfind (k2V (e.acct, e.cur)) (emap k2V iV (aput (e.acct, e.cur) ((aget (e.acct, e.cur) m).getD 0) m))).getD (iV 0) = iV ((aget (e.acct, e.cur) m).getD 0) := by rw [mfind_emap k2V_keq, aget_put, if_pos rfl]; rfl
    have f3 := mentry_emap (cv := iV) k2V_keq (e.acct, e.cur) 0 m
    have f4 : (emap k2V iV (aput (e.acct, e.cur) ((aget (e.acct, e.cur) m).getD 0) m))[aidx (e.acct, e.cur) m]? = some (k2V (e.acct, e.cur), iV ((aget (e.acct, e.cur) m).getD 0)) := by
      unfold emap; rw [List.getElem?_map, (aput_set (e.acct, e.cur) _ 0 m).2]; rfl
    have f5 : (emap k2V iV (aput (e.acct, e.cur) ((aget (e.acct, e.cur) m).getD 0) m)).set (aidx (e.acct, e.cur) m) (k2V (e.acct, e.cur), iV ((aget (e.acct, e.cur) m).getD 0 + e.amt)) = emap k2V iV (chgL (l.take (k + 1))) := by
      rw [emap_set, (aput_set (e.acct, e.cur) _ _ m).1, t1]
    have s1 : (mfind (sV e.cur) (emap sV iV sm)).getD (iV 0) = iV ((aget e.cur sm).getD 0) := by rw [mfind_emap sV_keq]; cases aget e.cur sm <;> rfl
    have s2 : mput (sV e.cur) (iV ((aget e.cur sm).getD 0 + e.amt)) (emap sV iV sm) = emap sV iV (sumL (l.take (k + 1))) := by rw [mput_emap sV_keq, t2]
    generalize (aget (e.acct, e.cur) m).getD 0 = v at *
    generalize (aget e.cur sm).getD 0 = sv at *
    repeat' (first | ((with_reducible refine gA ?_); refine AW_regionG' 6 10 8 (.mapF 70 2 (emap k2V iV (aput (e.acct, e.cur) v m))) Try.mixed ?_) | ((with_reducible refine gG ?_); first | (refine Eg_q rfl rfl rfl (LStep_simp (T := Try.tab) rfl rfl) ?_) | (refine Eg_q rfl rfl rfl (LStep_buildN (T := Try.tab) rfl rfl rfl rfl rfl rfl rfl) ?_) | (refine Eg_q rfl rfl rfl (LStep_add rfl rfl rfl rfl ?_) ?_; (refine IntWalk.i64_in _ ?_; omega)) | (refine Eg_r rfl rfl rfl (LStep_lookupF (T := Try.tab) rfl rfl rfl keyK2 rfl rfl rfl rfl rfl rfl (k2_keys _) f1) (LStep_lookupF (T := Try.tab) rfl rfl rfl keyK2 rfl rfl rfl rfl rfl rfl (k2_keys _) f2) ?_) | (refine Eg_x rfl rfl rfl (LStep_mapEntry (T := Try.tab) rfl rfl rfl keyK2 rfl rfl rfl rfl rfl rfl (k2_keys _) f3) rfl ?_) | (refine Eg_n rfl rfl rfl (LStep_entryStore rfl rfl rfl rfl rfl rfl rfl f4) rfl ?_)) | (refine Eg_nil (by kernel_rfl) (by kernel_rfl) ⟨_, rfl, rfl, List.mem_cons_self⟩ ?_) | ((with_reducible refine gA ?_); (first | refine AW_seq ?_ | refine AW_region ?_ | (refine AW_cond rfl (fun hc => ?_) (fun hc => ?_) <;> try (exfalso; simp only [cmpL] at hc; omega)) | refine AW_block ?_ | refine AW_skip ?_)) | ((with_reducible refine gS ?_); refine Es_s (T := Try.tab) rfl rfl rfl rfl ?_) | (((with_reducible refine gS ?_); apply Es_q); rfl; rfl; refine LStep_lookupD (T := Try.tab) rfl rfl rfl rfl rfl rfl rfl rfl rfl rfl (s_keys _) s1) | (((with_reducible refine gS ?_); apply Es_xn); rfl; rfl; refine LStep_mapUpdate (T := Try.tab) rfl rfl rfl rfl rfl rfl rfl rfl rfl (s_keys _) rfl; rfl) | (((with_reducible refine gS ?_); apply Es_q); rfl; rfl; (first | (refine LStep_add rfl rfl rfl rfl ?_; (refine IntWalk.i64_in _ ?_; first | omega | (simp only [cmps] at *; omega))) | (refine LStep_indexM (T := Try.tab) (c := ?_) rfl rfl rfl rfl rfl rfl ?_; rotate_left; assumption))) | (refine Es_skip rfl ?_ rfl ?_; (first | rfl | (refine w_tf ?_; assumption) | (refine w_ft ?_; assumption))) | (((with_reducible refine gS ?_); apply Es_xs); rfl; rfl; refine LStep_allocN (T := Try.tab) rfl rfl rfl rfl rfl rfl; rfl) | (((with_reducible refine gS ?_); apply Es_xn); rfl; rfl; (refine LStep_storeN (T := Try.tab) rfl rfl rfl rfl rfl rfl rfl ?_ rfl; (refine Nat.le_of_ble_eq_true ?_; rfl)); rfl) | (with_reducible refine Es_nil ?_) | (with_reducible refine then_n ?_) | (with_reducible refine block_n ?_))
    refine ⟨k + 1, by omega, by omega, by (repeat' (first | exact trivial | exact rfl | (refine ⟨Or.inl rfl, ?_⟩) | (refine ⟨Or.inr rfl, ?_⟩) | (refine ⟨Or.inr trivial, ?_⟩) | (refine ⟨rfl, ?_⟩) | (refine ⟨?_, ?_⟩))), by (repeat' (first | exact trivial | exact rfl | (refine ⟨Or.inl rfl, ?_⟩) | (refine ⟨Or.inr rfl, ?_⟩) | (refine ⟨Or.inr trivial, ?_⟩) | (refine ⟨rfl, ?_⟩) | (refine ⟨?_, ?_⟩))), ?_, by (repeat' (first | exact trivial | exact rfl | (refine ⟨Or.inl rfl, ?_⟩) | (refine ⟨Or.inr rfl, ?_⟩) | (refine ⟨Or.inr trivial, ?_⟩) | (refine ⟨rfl, ?_⟩) | (refine ⟨?_, ?_⟩)))⟩
    rw [← f5, ← s2]; (repeat' (first | exact trivial | exact rfl | (refine ⟨Or.inl rfl, ?_⟩) | (refine ⟨Or.inr rfl, ?_⟩) | (refine ⟨Or.inr trivial, ?_⟩) | (refine ⟨rfl, ?_⟩) | (refine ⟨?_, ?_⟩)))
  · have : k = l.length := by omega
    subst this
    rw [List.take_length]
    repeat' (first | ((with_reducible refine gRc ?_); refine AW_unF (m := 8) rfl ?_) | ((with_reducible refine gA ?_); (first | refine AW_seq ?_ | refine AW_region ?_ | (refine AW_cond rfl (fun hc => ?_) (fun hc => ?_) <;> try (exfalso; simp only [cmpL] at hc; omega)) | refine AW_ret ?_ | refine AW_exit ?_)) | ((with_reducible refine gS ?_); refine Es_s (T := Try.tab) rfl rfl rfl rfl ?_) | (with_reducible refine Es_nil ?_) | (with_reducible refine then_n ?_) | (with_reducible refine then_e ?_) | ((with_reducible refine block_e ?_ ?_); rfl) | ((with_reducible refine gR ?_); first | refine ret1 rfl ?_ | refine ret2 rfl rfl ?_ | refine ret0 ?_ | refine end1 rfl ?_ | refine end0 ?_))
    exact ⟨rfl, rfl, rfl, trivial⟩
end Go.Proofs.Ytofdnkgieigncaa
