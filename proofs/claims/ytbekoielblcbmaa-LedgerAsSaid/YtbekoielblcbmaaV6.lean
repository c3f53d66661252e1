import Derived.Test.YtbekoielblcbmaaV5
namespace Go.Proofs.Ytbekoielblcbmaa
open Go.SL

theorem lstep_fit {P : Program} {T : Tab P} {O : Org} {env : Env} {h : Hp} {o : Oper} {av av' : AV} {Ts : List Nat} (hd : dstOk o.dst O.nt = true) (hs : simp1 T env h o.op = some (av, Ts)) (he : av = av') : LStep P O o env h Ts [] av' [] := he ▸ LStep_simp1 hd hs
/-! ### Take, Let -/
def takeT (id : ByteArray) : ByteArray := ⟨#[116, 97, 107, 101, 32]⟩ ++ id
def takeX (h : Hld) (to : ByteArray) (m : Int) : List Ent := [⟨h.acct, h.cur, -m⟩, ⟨to, h.cur, m⟩]
def takeH (s : Led) (h : Hld) (to : ByteArray) (m : Int) : Int :=
  if (aget (to, h.cur) s.A).isNone = true then 4 else if to = h.acct then 1 else if m < 1 ∨ m > h.amt then 3 else if s.P.length ≥ 4096 then 7 else if 1099511627776 < wrp .i64 (balA s.A (to, h.cur) + m) then 3 else 0
def takeE (s : Led) (id to : ByteArray) (m : Int) : Int := match aget id s.H with
  | none => 4
  | some h => takeH s h to m
theorem take_no {s : Led} {x k : Int} {h' : Hp} (e : x = k) (h : SubH (hL s) h') : AV.d (.sc (.int .i64 k)) = AV.d (.sc (.int .i64 x)) ∧ SubH (hL s) h' := by rw [e]; exact ⟨rfl, h⟩
set_option maxRecDepth 10000 in
set_option maxHeartbeats 4000000 in
theorem takeNo_ac (s : Led) (id to : ByteArray) (m : Int) (hP : s.P.length ≤ 65536) (he : takeE s id to m ≠ 0) : AC Try.prog 17 [.ptr 1000 0, .d (.sc (.string id)), .d (.sc (.string to)), .d (.sc (.int .i64 m))] (hL s) [1000, 1001, 1002, 1003]
    (fun r h' => r = .d (.sc (.int .i64 (takeE s id to m))) ∧ SubH (hL s) h') := by
  have hlP : (s.P.map Post.enc).length = s.P.length := by simp
  unfold takeE at *
  cases hf : aget id s.H with
  | none =>
    have hm := mfind_no (cv := hV) sV_keq hf
    refine AC_enter Try.func17 rfl Try.ntmps17 (rv := [.tmp 8]) rfl rfl (by simp) (fun w X G => ?_)
    repeat' (first | ((with_reducible refine gA ?_); (first | refine AW_seq ?_ | refine AW_region ?_ | refine AW_condT rfl ?_ | refine AW_ret ?_)) | ((with_reducible refine gS ?_); refine Es_s (T := Try.tab) rfl rfl rfl rfl ?_) | (((with_reducible refine gS ?_); apply Es_q); rfl; rfl; refine LStep_lookupNoZ (T := Try.tab) rfl rfl rfl rfl rfl rfl rfl rfl rfl rfl (s_keys _) hm) | (refine Es_skip rfl ?_ rfl ?_; (first | rfl | (refine w_tf ?_; assumption) | (refine w_ft ?_; assumption))) | (((with_reducible refine gS ?_); apply Es_xs); rfl; rfl; refine LStep_allocN (T := Try.tab) rfl rfl rfl rfl rfl rfl; rfl) | (((with_reducible refine gS ?_); apply Es_xn); rfl; rfl; (refine LStep_storeN (T := Try.tab) rfl rfl rfl rfl rfl rfl rfl ?_ rfl; (refine Nat.le_of_ble_eq_true ?_; rfl)); rfl) | (with_reducible refine Es_nil ?_) | (with_reducible refine then_n ?_) | (with_reducible refine then_r ?_) | ((with_reducible refine gR ?_); first | refine ret1 rfl ?_ | refine ret2 rfl rfl ?_ | refine ret0 ?_ | refine end1 rfl ?_ | refine end0 ?_))
    exact ⟨rfl, rfl, rfl, rfl, rfl, trivial⟩
  | some h =>
    rw [hf] at he
    simp only at he ⊢
    have hm := mfind_some (cv := hV) sV_keq hf
    cases hg : aget (to, h.cur) s.A with
    | none =>
      have hm2 := mfind_no (cv := aV) k2V_keq hg
      have hE : takeH s h to m = 4 := by rw [takeH, if_pos (by rw [hg]; rfl)]
      refine AC_enter Try.func17 rfl Try.ntmps17 (rv := [.tmp 8]) rfl rfl (by simp) (fun w X G => ?_)
      repeat' (first | ((with_reducible refine gA ?_); (first | refine AW_seq ?_ | refine AW_region ?_ | refine AW_regionD Try.mixed ?_ | refine AW_condT rfl ?_ | refine AW_condF rfl ?_ | refine AW_ret ?_ | refine AW_skip ?_)) | (first | ((with_reducible refine gS ?_); refine Es_s (T := Try.tab) rfl rfl rfl rfl ?_) | ((with_reducible refine gD ?_); refine Ed_s (T := Try.tab) rfl rfl rfl rfl ?_)) | ((first | ((with_reducible refine gS ?_); apply Es_q) | ((with_reducible refine gD ?_); apply Ed_q)); rfl; rfl; (first | refine LStep_lookupOk (T := Try.tab) rfl rfl rfl rfl rfl rfl rfl rfl (s_keys _) hm | refine LStep_lookupNoZ (T := Try.tab) rfl rfl rfl keyK2 rfl rfl rfl rfl rfl rfl (k2_keys _) hm2)) | ((first | ((with_reducible refine gS ?_); apply Es_q) | ((with_reducible refine gD ?_); apply Ed_q)); rfl; rfl; refine LStep_buildN (T := Try.tab) rfl rfl rfl rfl rfl rfl rfl) | ((first | refine Es_skip rfl ?_ rfl ?_ | refine Ed_skip rfl ?_ rfl ?_); (first | rfl | (refine w_tf ?_; assumption) | (refine w_ft ?_; assumption))) | ((first | ((with_reducible refine gS ?_); apply Es_xs) | ((with_reducible refine gD ?_); apply Ed_xs)); rfl; rfl; refine LStep_allocN (T := Try.tab) rfl rfl rfl rfl rfl rfl; rfl) | ((first | ((with_reducible refine gS ?_); apply Es_xn) | ((with_reducible refine gD ?_); apply Ed_xn)); rfl; rfl; (refine LStep_storeN (T := Try.tab) rfl rfl rfl rfl rfl rfl rfl ?_ rfl; (refine Nat.le_of_ble_eq_true ?_; rfl)); rfl) | (with_reducible refine Es_nil ?_) | ((with_reducible refine Ed_nil ?_ ?_); kernel_rfl) | (with_reducible refine then_n ?_) | (with_reducible refine then_r ?_) | ((with_reducible refine gR ?_); first | refine ret1 rfl ?_ | refine ret2 rfl rfl ?_ | refine ret0 ?_ | refine end1 rfl ?_ | refine end0 ?_))
      exact take_no hE ⟨rfl, rfl, rfl, rfl, trivial⟩
    | some a =>
      have hm2 := mfind_some (cv := aV) k2V_keq hg
      have hbal : balA s.A (to, h.cur) = a.bal := by unfold balA; rw [hg]; rfl
      have h1 : ¬ (aget (to, h.cur) s.A).isNone = true := by rw [hg]; exact fun h => by cases h
      by_cases c1 : to = h.acct
      · have hE : takeH s h to m = 1 := by rw [takeH, if_neg h1, if_pos c1]
        have hq : eqs to h.acct = true := eqs_t.2 c1
        clear he c1
        refine AC_enter Try.func17 rfl Try.ntmps17 (rv := [.tmp 8]) rfl rfl (by simp) (fun w X G => ?_)
        repeat' (first | ((with_reducible refine gA ?_); (first | refine AW_seq ?_ | refine AW_region ?_ | refine AW_regionD Try.mixed ?_ | refine AW_condF rfl ?_ | (refine AW_condY rfl ?_ ?_; assumption) | refine AW_ret ?_ | refine AW_skip ?_)) | (first | ((with_reducible refine gS ?_); refine Es_s (T := Try.tab) rfl rfl rfl rfl ?_) | ((with_reducible refine gD ?_); refine Ed_s (T := Try.tab) rfl rfl rfl rfl ?_)) | ((first | ((with_reducible refine gS ?_); apply Es_q) | ((with_reducible refine gD ?_); apply Ed_q)); rfl; rfl; (first | refine LStep_lookupOk (T := Try.tab) rfl rfl rfl rfl rfl rfl rfl rfl (s_keys _) hm | refine LStep_lookupOk (T := Try.tab) rfl rfl rfl keyK2 rfl rfl rfl rfl (k2_keys _) hm2)) | ((first | ((with_reducible refine gS ?_); apply Es_q) | ((with_reducible refine gD ?_); apply Ed_q)); rfl; rfl; refine LStep_buildN (T := Try.tab) rfl rfl rfl rfl rfl rfl rfl) | ((first | refine Es_skip rfl ?_ rfl ?_ | refine Ed_skip rfl ?_ rfl ?_); (first | rfl | (refine w_tf ?_; assumption) | (refine w_ft ?_; assumption))) | ((first | ((with_reducible refine gS ?_); apply Es_xs) | ((with_reducible refine gD ?_); apply Ed_xs)); rfl; rfl; refine LStep_allocN (T := Try.tab) rfl rfl rfl rfl rfl rfl; rfl) | ((first | ((with_reducible refine gS ?_); apply Es_xn) | ((with_reducible refine gD ?_); apply Ed_xn)); rfl; rfl; (refine LStep_storeN (T := Try.tab) rfl rfl rfl rfl rfl rfl rfl ?_ rfl; (refine Nat.le_of_ble_eq_true ?_; rfl)); rfl) | (with_reducible refine Es_nil ?_) | ((with_reducible refine Ed_nil ?_ ?_); kernel_rfl) | (with_reducible refine then_n ?_) | (with_reducible refine then_r ?_) | ((with_reducible refine gR ?_); first | refine ret1 rfl ?_ | refine ret2 rfl rfl ?_ | refine ret0 ?_ | refine end1 rfl ?_ | refine end0 ?_))
        all_goals simp only [cmps] at *
        all_goals first
          | (exfalso; omega)
          | exact take_no hE ⟨rfl, rfl, rfl, rfl, trivial⟩
      have hq : eqs to h.acct = false := eqs_f.2 c1
      by_cases c2 : m < 1 ∨ m > h.amt
      · have hE : takeH s h to m = 3 := by rw [takeH, if_neg h1, if_neg c1, if_pos c2]
        clear he c1
        refine AC_enter Try.func17 rfl Try.ntmps17 (rv := [.tmp 8]) rfl rfl (by simp) (fun w X G => ?_)
        repeat' (first | ((with_reducible refine gA ?_); (first | refine AW_seq ?_ | refine AW_region ?_ | refine AW_regionD Try.mixed ?_ | refine AW_condT rfl ?_ | refine AW_condF rfl ?_ | (refine AW_condN rfl ?_ ?_; assumption) | (refine AW_cond rfl (fun hc => ?_) (fun hc => ?_) <;> try (exfalso; simp only [cmpL] at hc; omega)) | refine AW_ret ?_ | refine AW_skip ?_)) | (first | ((with_reducible refine gS ?_); refine Es_s (T := Try.tab) rfl rfl rfl rfl ?_) | ((with_reducible refine gD ?_); refine Ed_s (T := Try.tab) rfl rfl rfl rfl ?_)) | ((first | ((with_reducible refine gS ?_); apply Es_q) | ((with_reducible refine gD ?_); apply Ed_q)); rfl; (first | rfl | (refine w_ff ?_; assumption)); (first | refine LStep_lenOwn (T := Try.tab) rfl rfl rfl rfl rfl rfl | refine LStep_lookupOk (T := Try.tab) rfl rfl rfl rfl rfl rfl rfl rfl (s_keys _) hm | refine LStep_lookupOk (T := Try.tab) rfl rfl rfl keyK2 rfl rfl rfl rfl (k2_keys _) hm2)) | ((first | ((with_reducible refine gS ?_); apply Es_q) | ((with_reducible refine gD ?_); apply Ed_q)); rfl; (first | rfl | (refine w_ff ?_; assumption)); (first | refine LStep_simp (T := Try.tab) rfl rfl | (refine LStep_add rfl rfl rfl rfl ?_; (refine IntWalk.i64_in _ ?_; first | omega | (simp only [cmps] at *; omega))) | (refine LStep_pickT rfl rfl ?_ rfl rfl; assumption) | (refine LStep_pickF rfl rfl ?_ rfl rfl; assumption) | refine LStep_buildN (T := Try.tab) rfl rfl rfl rfl rfl rfl rfl)) | ((first | refine Es_skip rfl ?_ rfl ?_ | refine Ed_skip rfl ?_ rfl ?_); (first | rfl | (refine w_tf ?_; assumption) | (refine w_ft ?_; assumption))) | ((first | ((with_reducible refine gS ?_); apply Es_xs) | ((with_reducible refine gD ?_); apply Ed_xs)); rfl; rfl; refine LStep_allocN (T := Try.tab) rfl rfl rfl rfl rfl rfl; rfl) | ((first | ((with_reducible refine gS ?_); apply Es_xn) | ((with_reducible refine gD ?_); apply Ed_xn)); rfl; rfl; (refine LStep_storeN (T := Try.tab) rfl rfl rfl rfl rfl rfl rfl ?_ rfl; (refine Nat.le_of_ble_eq_true ?_; rfl)); rfl) | (refine Es_split rfl ?_ (fun _ => ?_) (fun _ => ?_); ((fail_if_success (refine und_t ?_; assumption)); (fail_if_success (refine und_f ?_; assumption)); exact trivial)) | (with_reducible refine Es_nil ?_) | ((with_reducible refine Ed_nil ?_ ?_); kernel_rfl) | (with_reducible refine then_n ?_) | (with_reducible refine then_r ?_) | ((with_reducible refine gR ?_); first | refine ret1 rfl ?_ | refine ret2 rfl rfl ?_ | refine ret0 ?_ | refine end1 rfl ?_ | refine end0 ?_))
        all_goals simp only [cmps] at *
        all_goals first
          | (exfalso; omega)
          | exact take_no hE ⟨rfl, rfl, rfl, rfl, trivial⟩
      by_cases c3 : s.P.length ≥ 4096
      · have hE : takeH s h to m = 7 := by rw [takeH, if_neg h1, if_neg c1, if_neg c2, if_pos c3]
        clear he c1
        refine AC_enter Try.func17 rfl Try.ntmps17 (rv := [.tmp 8]) rfl rfl (by simp) (fun w X G => ?_)
        repeat' (first | ((with_reducible refine gA ?_); (first | refine AW_seq ?_ | refine AW_region ?_ | refine AW_regionD Try.mixed ?_ | refine AW_condT rfl ?_ | refine AW_condF rfl ?_ | (refine AW_condN rfl ?_ ?_; assumption) | (refine AW_cond rfl (fun hc => ?_) (fun hc => ?_) <;> try (exfalso; simp only [cmpL] at hc; omega)) | refine AW_ret ?_ | refine AW_skip ?_)) | (first | ((with_reducible refine gS ?_); refine Es_s (T := Try.tab) rfl rfl rfl rfl ?_) | ((with_reducible refine gD ?_); refine Ed_s (T := Try.tab) rfl rfl rfl rfl ?_)) | ((first | ((with_reducible refine gS ?_); apply Es_q) | ((with_reducible refine gD ?_); apply Ed_q)); rfl; (first | rfl | (refine w_ff ?_; assumption)); (first | refine LStep_lenOwn (T := Try.tab) rfl rfl rfl rfl rfl rfl | refine LStep_lookupOk (T := Try.tab) rfl rfl rfl rfl rfl rfl rfl rfl (s_keys _) hm | refine LStep_lookupOk (T := Try.tab) rfl rfl rfl keyK2 rfl rfl rfl rfl (k2_keys _) hm2)) | ((first | ((with_reducible refine gS ?_); apply Es_q) | ((with_reducible refine gD ?_); apply Ed_q)); rfl; (first | rfl | (refine w_ff ?_; assumption)); (first | refine LStep_simp (T := Try.tab) rfl rfl | (refine LStep_pickT rfl rfl ?_ rfl rfl; assumption) | (refine LStep_pickF rfl rfl ?_ rfl rfl; assumption) | refine LStep_buildN (T := Try.tab) rfl rfl rfl rfl rfl rfl rfl)) | ((first | refine Es_skip rfl ?_ rfl ?_ | refine Ed_skip rfl ?_ rfl ?_); (first | rfl | (refine w_tf ?_; assumption) | (refine w_ft ?_; assumption))) | ((first | ((with_reducible refine gS ?_); apply Es_xs) | ((with_reducible refine gD ?_); apply Ed_xs)); rfl; rfl; refine LStep_allocN (T := Try.tab) rfl rfl rfl rfl rfl rfl; rfl) | ((first | ((with_reducible refine gS ?_); apply Es_xn) | ((with_reducible refine gD ?_); apply Ed_xn)); rfl; rfl; (refine LStep_storeN (T := Try.tab) rfl rfl rfl rfl rfl rfl rfl ?_ rfl; (refine Nat.le_of_ble_eq_true ?_; rfl)); rfl) | (refine Es_split rfl ?_ (fun _ => ?_) (fun _ => ?_); ((fail_if_success (refine und_t ?_; assumption)); (fail_if_success (refine und_f ?_; assumption)); exact trivial)) | (with_reducible refine Es_nil ?_) | ((with_reducible refine Ed_nil ?_ ?_); kernel_rfl) | (with_reducible refine then_n ?_) | (with_reducible refine then_r ?_) | ((with_reducible refine gR ?_); first | refine ret1 rfl ?_ | refine ret2 rfl rfl ?_ | refine ret0 ?_ | refine end1 rfl ?_ | refine end0 ?_))
        all_goals simp only [cmps] at *
        all_goals first
          | (exfalso; omega)
          | exact take_no hE ⟨rfl, rfl, rfl, rfl, trivial⟩
      by_cases c4 : 1099511627776 < wrp .i64 (balA s.A (to, h.cur) + m)
      · have hE : takeH s h to m = 3 := by rw [takeH, if_neg h1, if_neg c1, if_neg c2, if_neg c3, if_pos c4]
        rw [hbal] at c4
        clear he c1
        refine AC_enter Try.func17 rfl Try.ntmps17 (rv := [.tmp 8]) rfl rfl (by simp) (fun w X G => ?_)
        repeat' (first | ((with_reducible refine gA ?_); (first | refine AW_seq ?_ | refine AW_region ?_ | refine AW_regionD Try.mixed ?_ | refine AW_condT rfl ?_ | refine AW_condF rfl ?_ | (refine AW_condN rfl ?_ ?_; assumption) | (refine AW_cond rfl (fun hc => ?_) (fun hc => ?_) <;> try (exfalso; simp only [cmpL] at hc; omega)) | refine AW_ret ?_ | refine AW_skip ?_)) | (first | ((with_reducible refine gS ?_); refine Es_s (T := Try.tab) rfl rfl rfl rfl ?_) | ((with_reducible refine gD ?_); refine Ed_s (T := Try.tab) rfl rfl rfl rfl ?_)) | ((first | ((with_reducible refine gS ?_); apply Es_q) | ((with_reducible refine gD ?_); apply Ed_q)); rfl; (first | rfl | (refine w_ff ?_; assumption)); (first | refine LStep_lenOwn (T := Try.tab) rfl rfl rfl rfl rfl rfl | refine LStep_lookupOk (T := Try.tab) rfl rfl rfl rfl rfl rfl rfl rfl (s_keys _) hm | refine LStep_lookupOk (T := Try.tab) rfl rfl rfl keyK2 rfl rfl rfl rfl (k2_keys _) hm2)) | ((first | ((with_reducible refine gS ?_); apply Es_q) | ((with_reducible refine gD ?_); apply Ed_q)); rfl; (first | rfl | (refine w_ff ?_; assumption)); (first | refine LStep_simp (T := Try.tab) rfl rfl | refine LStep_wrap (T := Try.tab) rfl rfl | (refine LStep_pickT rfl rfl ?_ rfl rfl; assumption) | (refine LStep_pickF rfl rfl ?_ rfl rfl; assumption) | refine LStep_buildN (T := Try.tab) rfl rfl rfl rfl rfl rfl rfl)) | ((first | refine Es_skip rfl ?_ rfl ?_ | refine Ed_skip rfl ?_ rfl ?_); (first | rfl | (refine w_tf ?_; assumption) | (refine w_ft ?_; assumption))) | ((first | ((with_reducible refine gS ?_); apply Es_xs) | ((with_reducible refine gD ?_); apply Ed_xs)); rfl; rfl; refine LStep_allocN (T := Try.tab) rfl rfl rfl rfl rfl rfl; rfl) | ((first | ((with_reducible refine gS ?_); apply Es_xn) | ((with_reducible refine gD ?_); apply Ed_xn)); rfl; rfl; (refine LStep_storeN (T := Try.tab) rfl rfl rfl rfl rfl rfl rfl ?_ rfl; (refine Nat.le_of_ble_eq_true ?_; rfl)); rfl) | (refine Es_split rfl ?_ (fun _ => ?_) (fun _ => ?_); ((fail_if_success (refine und_t ?_; assumption)); (fail_if_success (refine und_f ?_; assumption)); exact trivial)) | (with_reducible refine Es_nil ?_) | ((with_reducible refine Ed_nil ?_ ?_); kernel_rfl) | (with_reducible refine then_n ?_) | (with_reducible refine then_r ?_) | ((with_reducible refine gR ?_); first | refine ret1 rfl ?_ | refine ret2 rfl rfl ?_ | refine ret0 ?_ | refine end1 rfl ?_ | refine end0 ?_))
        all_goals simp only [cmps] at *
        all_goals first
          | (exfalso; omega)
          | exact take_no hE ⟨rfl, rfl, rfl, rfl, trivial⟩
      exact absurd (by rw [takeH, if_neg h1, if_neg c1, if_neg c2, if_neg c3, if_neg c4]) he
theorem takeE_ok {s : Led} {id to : ByteArray} {m : Int} (he : takeE s id to m = 0) : ∃ h a, aget id s.H = some h ∧ aget (to, h.cur) s.A = some a ∧ to ≠ h.acct ∧ 1 ≤ m ∧ m ≤ h.amt ∧ s.P.length < 4096 ∧ wrp .i64 (a.bal + m) ≤ 1099511627776 := by
  unfold takeE at he
  cases hf : aget id s.H with
  | none => rw [hf] at he; cases he
  | some h =>
    rw [hf] at he
    simp only at he
    unfold takeH balA at he
    cases hg : aget (to, h.cur) s.A with
    | none => rw [hg] at he; cases he
    | some a =>
      rw [hg] at he
      refine ⟨h, a, rfl, hg, ?_⟩
      split at he
      · cases he
      split at he
      · cases he
      split at he
      · cases he
      split at he
      · cases he
      split at he
      · cases he
      rename_i g1 g2 g3 g4
      exact ⟨g1, by omega, by omega, by omega, Int.not_lt.1 g4⟩
def takeS (s : Led) (id to : ByteArray) (m : Int) : Led := match aget id s.H with
  | none => s
  | some h => enterS (lessS s h m) (takeT id) (takeX h to m)
theorem aget_keep {κ α : Type} [DecidableEq κ] {k k' : κ} {c : α} {l : List (κ × α)} (h : aget k' l ≠ none) : aget k' (aput k c l) ≠ none := by
  rw [aget_put]
  split
  · simp
  · exact h
set_option maxRecDepth 10000 in
set_option maxHeartbeats 4000000 in
theorem takeOk_ac (s : Led) (id to : ByteArray) (m : Int) (hn : (akeys s.A).Nodup) (hid : id.size ≤ 1048576) (hh : ∀ h, aget id s.H = some h → aget h.key s.A ≠ none ∧ h.amt ≤ 1099511627776) (he : takeE s id to m = 0) :
    AC Try.prog 17 [.ptr 1000 0, .d (.sc (.string id)), .d (.sc (.string to)), .d (.sc (.int .i64 m))] (hL s) [1000, 1001, 1003]
    (fun r h' => r = .d (.sc (.int .i64 0)) ∧ SubH (hL (takeS s id to m)) h') := by
  have hlP : (s.P.map Post.enc).length = s.P.length := by simp
  obtain ⟨h, a, hf, hg, c1, c2, c3, c4, c5⟩ := takeE_ok he
  obtain ⟨hk, hamt⟩ := hh h hf
  have hS : takeS s id to m = enterS (lessS s h m) (takeT id) (takeX h to m) := by unfold takeS; rw [hf]
  rw [hS]
  have hm := mfind_some (cv := hV) sV_keq hf
  have hm2 := mfind_some (cv := aV) k2V_keq hg
  have hq : eqs to h.acct = false := eqs_f.2 c1
  have hneg : AV.d (.sc (.int .i64 (wrp .i64 (0 - m)))) = .d (.sc (.int .i64 (-m))) := by rw [wrp_fit (by omega), Int.zero_sub]
  have cl := lessen_ac s h m hk (by omega)
  have ce := enter_ac (lessS s h m) (takeT id) (takeX h to m) (by simp [takeX]) (fun e he => by
    simp only [takeX, List.mem_cons, List.not_mem_nil, or_false] at he
    rcases he with rfl | rfl <;> (unfold Ent.in40; dsimp only; omega)) (fun e he => by
    simp only [takeX, List.mem_cons, List.not_mem_nil, or_false] at he
    rcases he with rfl | rfl
    · exact aget_keep hk
    · exact aget_keep (by rw [show Ent.key ⟨to, h.cur, m⟩ = (to, h.cur) from rfl, hg]; simp)) (nodup_put hn) (by show s.P.length ≤ 65536; omega)
  have hgr : ((lessS s h m).P.map Post.enc).length < ((enterS (lessS s h m) (takeT id) (takeX h to m)).P.map Post.enc).length := enter_grows _ _ _
  clear he hn hh hS c1 hk
  refine AC_enter Try.func17 rfl Try.ntmps17 (rv := [.tmp 8]) rfl rfl (by simp) (fun w X G => ?_)
  repeat' (first | ((with_reducible refine gA ?_); (first | refine AW_seq ?_ | refine AW_region ?_ | refine AW_regionD Try.mixed ?_ | refine AW_condT rfl ?_ | refine AW_condF rfl ?_ | (refine AW_condN rfl ?_ ?_; assumption) | (refine AW_cond rfl (fun hc => ?_) (fun hc => ?_) <;> try (exfalso; simp only [cmpL] at hc; omega)) | refine AW_ret ?_ | refine AW_skip ?_)) | ((first | ((with_reducible refine gS ?_); apply Es_q) | ((with_reducible refine gD ?_); apply Ed_q)); rfl; (first | rfl | (refine w_ff ?_; assumption)); refine lstep_fit (T := Try.tab) rfl rfl hneg) | (first | ((with_reducible refine gS ?_); refine Es_s (T := Try.tab) rfl rfl rfl rfl ?_) | ((with_reducible refine gD ?_); refine Ed_s (T := Try.tab) rfl rfl rfl rfl ?_)) | ((first | ((with_reducible refine gS ?_); apply Es_q) | ((with_reducible refine gD ?_); apply Ed_q)); rfl; (first | rfl | (refine w_ff ?_; assumption)); (first | refine LStep_lenOwn (T := Try.tab) rfl rfl rfl rfl rfl rfl | refine LStep_lookupOk (T := Try.tab) rfl rfl rfl rfl rfl rfl rfl rfl (s_keys _) hm | refine LStep_lookupOk (T := Try.tab) rfl rfl rfl keyK2 rfl rfl rfl rfl (k2_keys _) hm2 | (refine lstep_cat rfl rfl rfl rfl ?_; (have : (⟨#[116, 97, 107, 101, 32]⟩ : ByteArray).size = 5 := rfl; omega)))) | ((first | ((with_reducible refine gS ?_); apply Es_xg) | ((with_reducible refine gD ?_); apply Ed_xg)); rfl; (first | rfl | (refine w_ff ?_; assumption)); (first | refine LStep_callHN [] [] cl rfl rfl ⟨rfl, rfl, rfl, rfl, trivial⟩ rfl ⟨trivial, trivial, rfl, trivial, trivial⟩ rfl rfl | refine LStep_callGN [1002] [] [] ce rfl rfl ⟨rfl, rfl, rfl, rfl, trivial⟩ rfl ⟨trivial, trivial, hgr, trivial, trivial⟩ rfl rfl); rfl) | ((first | ((with_reducible refine gS ?_); apply Es_q) | ((with_reducible refine gD ?_); apply Ed_q)); rfl; (first | rfl | (refine w_ff ?_; assumption)); (first | refine LStep_simp (T := Try.tab) rfl rfl | refine LStep_wrap (T := Try.tab) rfl rfl | (refine LStep_pickT rfl rfl ?_ rfl rfl; assumption) | (refine LStep_pickF rfl rfl ?_ rfl rfl; assumption) | (refine LStep_lit (T := Try.tab) rfl rfl rfl rfl rfl rfl rfl rfl ?_; (refine Nat.le_of_ble_eq_true ?_; rfl)) | refine LStep_buildN (T := Try.tab) rfl rfl rfl rfl rfl rfl rfl)) | ((first | refine Es_skip rfl ?_ rfl ?_ | refine Ed_skip rfl ?_ rfl ?_); (first | rfl | (refine w_tf ?_; assumption) | (refine w_ft ?_; assumption))) | ((first | ((with_reducible refine gS ?_); apply Es_xs) | ((with_reducible refine gD ?_); apply Ed_xs)); rfl; rfl; refine LStep_allocN (T := Try.tab) rfl rfl rfl rfl rfl rfl; rfl) | ((first | ((with_reducible refine gS ?_); apply Es_xn) | ((with_reducible refine gD ?_); apply Ed_xn)); rfl; rfl; (refine LStep_storeN (T := Try.tab) rfl rfl rfl rfl rfl rfl rfl ?_ rfl; (refine Nat.le_of_ble_eq_true ?_; rfl)); rfl) | (refine Es_split rfl ?_ (fun _ => ?_) (fun _ => ?_); ((fail_if_success (refine und_t ?_; assumption)); (fail_if_success (refine und_f ?_; assumption)); exact trivial)) | (with_reducible refine Es_nil ?_) | ((with_reducible refine Ed_nil ?_ ?_); kernel_rfl) | (with_reducible refine then_n ?_) | (with_reducible refine then_r ?_) | ((with_reducible refine gR ?_); first | refine ret1 rfl ?_ | refine ret2 rfl rfl ?_ | refine ret0 ?_ | refine end1 rfl ?_ | refine end0 ?_))
  all_goals simp only [cmps] at *
  all_goals first
    | (exfalso; omega)
    | exact ⟨by first | rfl | trivial, rfl, rfl, rfl, rfl, trivial⟩
def letE (s : Led) (id : ByteArray) : Int := if (aget id s.H).isNone = true then 4 else 0
def letS (s : Led) (id : ByteArray) : Led := match aget id s.H with
  | none => s
  | some h => lessS s h h.amt
set_option maxRecDepth 10000 in
set_option maxHeartbeats 4000000 in
theorem let_ac (s : Led) (id : ByteArray) (hh : ∀ h, aget id s.H = some h → aget h.key s.A ≠ none) : AC Try.prog 18 [.ptr 1000 0, .d (.sc (.string id))] (hL s) [1000, 1001, 1002, 1003]
    (fun r h' => r = .d (.sc (.int .i64 (letE s id))) ∧ SubH (hL (letS s id)) h') := by
  unfold letE letS
  cases hf : aget id s.H with
  | none =>
    have hm := mfind_no (cv := hV) sV_keq hf
    refine AC_enter Try.func18 rfl Try.ntmps18 (rv := [.tmp 4]) rfl rfl (by simp) (fun w X G => ?_)
    repeat' (first | ((with_reducible refine gA ?_); (first | refine AW_seq ?_ | refine AW_region ?_ | refine AW_condT rfl ?_ | refine AW_ret ?_)) | ((with_reducible refine gS ?_); refine Es_s (T := Try.tab) rfl rfl rfl rfl ?_) | (((with_reducible refine gS ?_); apply Es_q); rfl; rfl; refine LStep_lookupNoZ (T := Try.tab) rfl rfl rfl rfl rfl rfl rfl rfl rfl rfl (s_keys _) hm) | (refine Es_skip rfl ?_ rfl ?_; (first | rfl | (refine w_tf ?_; assumption) | (refine w_ft ?_; assumption))) | (((with_reducible refine gS ?_); apply Es_xs); rfl; rfl; refine LStep_allocN (T := Try.tab) rfl rfl rfl rfl rfl rfl; rfl) | (((with_reducible refine gS ?_); apply Es_xn); rfl; rfl; (refine LStep_storeN (T := Try.tab) rfl rfl rfl rfl rfl rfl rfl ?_ rfl; (refine Nat.le_of_ble_eq_true ?_; rfl)); rfl) | (with_reducible refine Es_nil ?_) | (with_reducible refine then_n ?_) | (with_reducible refine then_r ?_) | ((with_reducible refine gR ?_); first | refine ret1 rfl ?_ | refine ret2 rfl rfl ?_ | refine ret0 ?_ | refine end1 rfl ?_ | refine end0 ?_))
    exact ⟨rfl, rfl, rfl, rfl, rfl, trivial⟩
  | some h =>
    have hm := mfind_some (cv := hV) sV_keq hf
    have cl := lessen_ac s h h.amt (hh h hf) (by omega)
    refine AC_enter Try.func18 rfl Try.ntmps18 (rv := [.tmp 4]) rfl rfl (by simp) (fun w X G => ?_)
    repeat' (first | ((with_reducible refine gA ?_); (first | refine AW_seq ?_ | refine AW_region ?_ | refine AW_condF rfl ?_ | refine AW_ret ?_ | refine AW_skip ?_)) | ((with_reducible refine gS ?_); refine Es_s (T := Try.tab) rfl rfl rfl rfl ?_) | (((with_reducible refine gS ?_); apply Es_q); rfl; rfl; refine LStep_lookupOk (T := Try.tab) rfl rfl rfl rfl rfl rfl rfl rfl (s_keys _) hm) | (((with_reducible refine gS ?_); apply Es_xg); rfl; rfl; refine LStep_callHN [] [] cl rfl rfl ⟨rfl, rfl, rfl, rfl, trivial⟩ rfl ⟨trivial, trivial, rfl, trivial, trivial⟩ rfl rfl; rfl) | (refine Es_skip rfl ?_ rfl ?_; (first | rfl | (refine w_tf ?_; assumption) | (refine w_ft ?_; assumption))) | (((with_reducible refine gS ?_); apply Es_xs); rfl; rfl; refine LStep_allocN (T := Try.tab) rfl rfl rfl rfl rfl rfl; rfl) | (((with_reducible refine gS ?_); apply Es_xn); rfl; rfl; (refine LStep_storeN (T := Try.tab) rfl rfl rfl rfl rfl rfl rfl ?_ rfl; (refine Nat.le_of_ble_eq_true ?_; rfl)); rfl) | (with_reducible refine Es_nil ?_) | (with_reducible refine then_n ?_) | ((with_reducible refine gR ?_); first | refine ret1 rfl ?_ | refine ret2 rfl rfl ?_ | refine ret0 ?_ | refine end1 rfl ?_ | refine end0 ?_))
    exact ⟨rfl, rfl, rfl, rfl, rfl, trivial⟩
end Go.Proofs.Ytbekoielblcbmaa
