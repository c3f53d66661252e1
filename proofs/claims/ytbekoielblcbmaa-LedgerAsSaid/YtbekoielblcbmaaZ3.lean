import Derived.Test.YtbekoielblcbmaaZ2
namespace Go.Proofs.Ytbekoielblcbmaa
open Go.SL
/-! ### the document's Post -/
structure DocH (s : Led) (H : List Hld) : Prop where
  perm : H.Perm (mvals s.H)
  nm : ∀ p ∈ s.A, lnameOk p.1.1 = true
theorem nm_ne {n : ByteArray} (h : lnameOk n = true) : n ≠ ⟨#[]⟩ := by
  rintro rfl
  exact absurd h (by decide)
theorem sum_perm {l m : List Int} (h : l.Perm m) : l.sum = m.sum := by
  induction h with
  | nil => rfl
  | cons a _ ih => simp [ih]
  | swap a b l => simp only [List.sum_cons]; omega
  | trans _ _ i1 i2 => exact i1.trans i2
theorem hsumL_doc {s : Led} {H : List Hld} (h : DocH s H) (k : K2) : hsumL k H = hsum k s.H := by
  unfold hsumL hsum
  rw [sum_perm (h.perm.map _), mvals, List.map_map]
  rfl
theorem doc_held {s : Led} {H : List Hld} (h : DocH s H) (hs : s.Ok) (hv : s.Inv) {p : K2 × Acc} (hp : p ∈ s.A) : wrp .i64 (hsumL p.1 H) = p.2.held := by
  have hg := aget_of_mem hs.nA (k := p.1) (c := p.2) hp
  have hacc := hv.acc _ _ hg
  rw [hsumL_doc h, ← hv.held _ _ hg]
  exact wrp_fit (by omega)
theorem doc_len {s : Led} {H : List Hld} (h : DocH s H) (hs : s.Ok) : H.length ≤ 4096 := by
  rw [h.perm.length_eq, mvals, List.length_map]
  exact hs.lH
def offC (x : List Ent) (e : Ent) : Bool := decide (csum e.cur x ≠ 0)
def overD (x : List Ent) (p : K2 × Acc) : Bool := decide (1099511627776 < wrp .i64 (p.2.bal + wrp .i64 (esum p.1 x)))
def lackD (x : List Ent) (p : K2 × Acc) : Bool := decide (wrp .i64 (esum p.1 x) < 0 ∧ p.2.fr < wrp .i64 (0 - wrp .i64 (esum p.1 x)))
def refD (A : List (K2 × Acc)) (x : List Ent) : Int :=
  if x.any (miss A) = true then 4 else if x.any wide = true then 3 else if x.any (offC x) = true then 2 else if A.any (overD x) = true then 3 else if A.any (lackD x) = true then 10 else 0
theorem any_iff {α β : Type} {l : List α} {m : List β} {f : α → Bool} {g : β → Bool} (h : (∃ x ∈ l, f x = true) ↔ ∃ y ∈ m, g y = true) : l.any f = m.any g := by
  rw [Bool.eq_iff_iff, List.any_eq_true, List.any_eq_true]
  exact h
theorem csum_in {x : List Ent} (h : ∀ e ∈ x, e.in40) (c : ByteArray) : -(1099511627776 * (x.length : Int)) ≤ csum c x ∧ csum c x ≤ 1099511627776 * (x.length : Int) := by
  rw [← sum_csum]
  exact sumL_in x h c
theorem refD_eq {s : Led} (hs : s.Ok) (hv : s.Inv) {x : List Ent} (hl : x.length ≤ 64) : refD s.A x = refS s.A x := by
  unfold refD refS
  by_cases h1 : x.any (miss s.A) = true
  · rw [if_pos h1, if_pos h1]
  rw [if_neg h1, if_neg h1]
  by_cases h2 : x.any wide = true
  · rw [if_pos h2, if_pos h2]
  rw [if_neg h2, if_neg h2]
  have k1 : ∀ e ∈ x, aget e.key s.A ≠ none := fun e he hq => by
    refine h1 (List.any_eq_true.2 ⟨e, he, ?_⟩)
    unfold miss
    rw [hq]; rfl
  have k2 : ∀ e ∈ x, e.in40 := fun e he => by
    have := List.any_eq_false.1 (by simpa using h2 : x.any wide = false) e he
    unfold wide at this
    simp only [decide_eq_true_eq] at this
    exact ⟨by omega, by omega⟩
  have e3 : x.any (offC x) = (sumL x).any off0 := any_iff ⟨fun ⟨e, he, h⟩ => by
      have hc : csum e.cur x ≠ 0 := by simpa [offC] using h
      cases hq : aget e.cur (sumL x) with
      | none => exact absurd (by rw [← sum_csum, hq]; rfl) hc
      | some d =>
        refine ⟨(e.cur, d), aget_mem hq, ?_⟩
        have : d = csum e.cur x := by rw [← sum_csum, hq]; rfl
        simpa [off0, this] using hc
    , fun ⟨q, hq, h⟩ => by
      obtain ⟨e, he, hk⟩ := ((sumL_keys x).2 q.1).1 (List.mem_map.2 ⟨q, hq, rfl⟩)
      have : q.2 = csum q.1 x := by rw [← sum_csum, aget_of_mem (sumL_keys x).1 (k := q.1) (c := q.2) hq]; rfl
      refine ⟨e, he, ?_⟩
      have h0 : q.2 ≠ 0 := by simpa [off0] using h
      simpa [offC, hk, ← this] using h0⟩
  rw [e3]
  have hw : ∀ k, wrp .i64 (esum k x) = esum k x := fun k => wrp_fit (by have := esum_in k2 k; omega)
  have hw2 : ∀ k, wrp .i64 (0 - wrp .i64 (esum k x)) = -esum k x := fun k => by rw [hw]; rw [wrp_fit (by have := esum_in k2 k; omega)]; omega
  have e4 : s.A.any (overD x) = (chgL x).any (over s.A) := any_iff ⟨fun ⟨p, hp, h⟩ => by
      have hg := aget_of_mem hs.nA (k := p.1) (c := p.2) hp
      have hb := acc_bal (hv.acc _ _ hg)
      have h : 1099511627776 < wrp .i64 (p.2.bal + esum p.1 x) := by simpa [overD, hw] using h
      cases hq : aget p.1 (chgL x) with
      | none => rw [esum_notin hq, wrp_fit (by omega)] at h; omega
      | some d =>
        have : d = esum p.1 x := by rw [← chg_esum, hq]; rfl
        refine ⟨(p.1, d), aget_mem hq, ?_⟩
        unfold over balA
        rw [hg, this]
        simpa using h
    , fun ⟨q, hq, h⟩ => by
      obtain ⟨e, he, hk⟩ := ((chgL_keys x).2 q.1).1 (List.mem_map.2 ⟨q, hq, rfl⟩)
      have hd : q.2 = esum q.1 x := by rw [← chg_esum, aget_of_mem (chgL_keys x).1 (k := q.1) (c := q.2) hq]; rfl
      cases ha : aget q.1 s.A with
      | none => exact absurd (by rw [hk]; exact ha) (k1 e he)
      | some a =>
        refine ⟨(q.1, a), aget_mem ha, ?_⟩
        unfold over balA at h
        rw [ha, hd] at h
        simpa [overD, hw] using h⟩
  rw [e4]
  have e5 : s.A.any (lackD x) = (chgL x).any (lackA s.A) := any_iff ⟨fun ⟨p, hp, h⟩ => by
      have hg := aget_of_mem hs.nA (k := p.1) (c := p.2) hp
      have h : esum p.1 x < 0 ∧ p.2.fr < -esum p.1 x := by unfold lackD at h; rw [hw2, hw] at h; simpa using h
      cases hq : aget p.1 (chgL x) with
      | none => rw [esum_notin hq] at h; omega
      | some d =>
        have : d = esum p.1 x := by rw [← chg_esum, hq]; rfl
        refine ⟨(p.1, d), aget_mem hq, ?_⟩
        unfold lackA frA
        rw [hg, this]
        simpa using h
    , fun ⟨q, hq, h⟩ => by
      obtain ⟨e, he, hk⟩ := ((chgL_keys x).2 q.1).1 (List.mem_map.2 ⟨q, hq, rfl⟩)
      have hd : q.2 = esum q.1 x := by rw [← chg_esum, aget_of_mem (chgL_keys x).1 (k := q.1) (c := q.2) hq]; rfl
      cases ha : aget q.1 s.A with
      | none => exact absurd (by rw [hk]; exact ha) (k1 e he)
      | some a =>
        refine ⟨(q.1, a), aget_mem ha, ?_⟩
        unfold lackA frA at h
        rw [ha, hd] at h
        unfold lackD
        rw [hw2, hw]
        simpa using h⟩
  rw [e5]
def postD (A : List (K2 × Acc)) (t : ByteArray) (x : List Ent) : Int := if t.size > 4096 ∨ x.length = 0 ∨ x.length > 64 then 1 else refD A x
set_option maxRecDepth 20000 in
set_option maxHeartbeats 8000000 in
theorem rpost_ac (s : Led) (H : List Hld) (t : ByteArray) (x : List Ent) (hs : s.Ok) (hv : s.Inv) (hH : DocH s H) (hxl : x.length ≤ 140737488351232) (hts : t.size ≤ 9007199254740992) : AC Try.prog 42 [docA s.A s.P H, .d (.sc (.string t)), .d (.sl 3 (x.map Ent.enc))] [] []
    (fun r _ => r = .tup [if postD s.A t x = 0 then docA (bkE s.A x) (s.P ++ [⟨(s.P.length : Int) + 1, t, x⟩]) H else docA s.A s.P H, .d (.sc (.int .i64 (postD s.A t x)))]) := by
  have hlA := hs.lA
  have hlH := doc_len hH hs
  have hlP := hs.lP
  have ne : ∀ {k : Int}, postD s.A t x = k → k ≠ 0 → AV.tup [docA s.A s.P H, .d (.sc (.int .i64 k))] = .tup [if postD s.A t x = 0 then docA (bkE s.A x) (s.P ++ [⟨(s.P.length : Int) + 1, t, x⟩]) H else docA s.A s.P H, .d (.sc (.int .i64 (postD s.A t x)))] := fun h1 h2 => by rw [h1, if_neg h2]
  by_cases hbad : t.size > 4096 ∨ x.length = 0 ∨ x.length > 64
  · have h1 : postD s.A t x = 1 := by unfold postD; rw [if_pos hbad]
    refine AC_enterG Try.tab Try.func42 rfl Try.ntmps42 (rv := [.cell 6 45, .tmp 7]) rfl rfl (by simp) (fun w X G => ?_)
    repeat' (first | ((with_reducible refine gA ?_); (first | refine AW_seq ?_ | refine AW_region ?_ | refine AW_condT rfl ?_ | (refine AW_cond rfl (fun hc => ?_) (fun hc => ?_) <;> try (exfalso; simp only [cmpL] at hc; omega)) | refine AW_block ?_ | refine AW_ret ?_ | refine AW_skip ?_)) | ((with_reducible refine gS ?_); refine Es_s (T := Try.tab) rfl rfl rfl rfl ?_) | (((with_reducible refine gS ?_); apply Es_q); rfl; (first | rfl | (refine w_ff ?_; assumption)); (first | refine LStep_simp (T := Try.tab) rfl rfl | refine LStep_lenM (T := Try.tab) rfl rfl rfl rfl | refine LStep_wrap (T := Try.tab) rfl rfl | (refine LStep_pickT rfl rfl ?_ rfl rfl; assumption) | (refine LStep_pickF rfl rfl ?_ rfl rfl; assumption))) | (refine Es_skip rfl ?_ rfl ?_; (first | rfl | (refine w_tf ?_; assumption) | (refine w_ft ?_; assumption))) | (((with_reducible refine gS ?_); apply Es_xs); rfl; rfl; (first | refine LStep_boxN rfl rfl rfl rfl rfl rfl | refine LStep_allocN (T := Try.tab) rfl rfl rfl rfl rfl rfl); rfl) | (((with_reducible refine gS ?_); apply Es_xn); rfl; rfl; (refine LStep_storeN (T := Try.tab) rfl rfl rfl rfl rfl rfl rfl ?_ rfl; (refine Nat.le_of_ble_eq_true ?_; rfl)); rfl) | (refine Es_split rfl ?_ (fun _ => ?_) (fun _ => ?_); ((fail_if_success (refine und_t ?_; assumption)); (fail_if_success (refine und_f ?_; assumption)); exact trivial)) | (with_reducible refine Es_nil ?_) | (with_reducible refine then_n ?_) | (with_reducible refine then_r ?_) | ((with_reducible refine gRG ?_); first | refine retGa rfl ?_ | refine retGb rfl ?_ | refine retGc rfl ?_ | refine retG1 rfl rfl ?_ | refine endG1 rfl rfl ?_))
    all_goals simp only [cmps] at *
    all_goals first
      | exact ne h1 (by decide)
      | (exfalso; omega)
  have hpd : postD s.A t x = refD s.A x := by unfold postD; rw [if_neg hbad]
  rw [hpd] at ne ⊢
  have hl : x.length ≤ 64 := by omega
  refine AC_enterG Try.tab Try.func42 rfl Try.ntmps42 (rv := [.cell 6 45, .tmp 7]) rfl rfl (by simp) (fun w X G => ?_)
  repeat' (first | ((with_reducible refine gA ?_); (first | refine AW_seq ?_ | refine AW_region ?_ | refine AW_condT rfl ?_ | (refine AW_cond rfl (fun hc => ?_) (fun hc => ?_) <;> try (exfalso; simp only [cmpL] at hc; omega)) | refine AW_block ?_ | refine AW_ret ?_ | refine AW_skip ?_)) | ((with_reducible refine gS ?_); refine Es_s (T := Try.tab) rfl rfl rfl rfl ?_) | (((with_reducible refine gS ?_); apply Es_q); rfl; (first | rfl | (refine w_ff ?_; assumption)); (first | refine LStep_simp (T := Try.tab) rfl rfl | refine LStep_lenM (T := Try.tab) rfl rfl rfl rfl | refine LStep_wrap (T := Try.tab) rfl rfl | (refine LStep_pickT rfl rfl ?_ rfl rfl; assumption) | (refine LStep_pickF rfl rfl ?_ rfl rfl; assumption))) | (refine Es_skip rfl ?_ rfl ?_; (first | rfl | (refine w_tf ?_; assumption) | (refine w_ft ?_; assumption))) | (((with_reducible refine gS ?_); apply Es_xs); rfl; rfl; (first | refine LStep_boxN rfl rfl rfl rfl rfl rfl | refine LStep_allocN (T := Try.tab) rfl rfl rfl rfl rfl rfl); rfl) | (((with_reducible refine gS ?_); apply Es_xn); rfl; rfl; (refine LStep_storeN (T := Try.tab) rfl rfl rfl rfl rfl rfl rfl ?_ rfl; (refine Nat.le_of_ble_eq_true ?_; rfl)); rfl) | (refine Es_split rfl ?_ (fun _ => ?_) (fun _ => ?_); ((fail_if_success (refine und_t ?_; assumption)); (fail_if_success (refine und_f ?_; assumption)); exact trivial)) | (with_reducible refine Es_nil ?_) | (with_reducible refine then_n ?_) | (with_reducible refine then_r ?_) | ((with_reducible refine gRG ?_); first | refine retGa rfl ?_ | refine retGb rfl ?_ | refine retGc rfl ?_ | refine retG1 rfl rfl ?_ | refine endG1 rfl rfl ?_))
  all_goals simp only [cmps] at *
  all_goals first
    | (exfalso; omega)
    | skip
  -- all accounts are there
  refine AW_forE (S := Nat) (fun k => k ≤ x.length ∧ (x.take k).any (miss s.A) = false) (fun k => [(8, .d (.sc (.int .i64 (k : Nat))))]) (fun _ => []) (fun k => x.length - k) 0 ⟨by omega, rfl⟩ (by (repeat' (first | exact trivial | exact rfl | (refine ⟨Or.inl rfl, ?_⟩) | (refine ⟨Or.inr rfl, ?_⟩) | (refine ⟨Or.inr trivial, ?_⟩) | (refine ⟨rfl, ?_⟩) | (refine ⟨?_, ?_⟩)))) (by (repeat' (first | exact trivial | exact rfl | (refine ⟨Or.inl rfl, ?_⟩) | (refine ⟨Or.inr rfl, ?_⟩) | (refine ⟨Or.inr trivial, ?_⟩) | (refine ⟨rfl, ?_⟩) | (refine ⟨?_, ?_⟩)))) ?_
  intro k ⟨hkl, hf⟩
  by_cases hlt : k < x.length
  · obtain ⟨e, he, _⟩ := drop_at hlt
    obtain ⟨hn, hy⟩ := any_take (f := miss s.A) he hf
    have cf := rfind_ac s.A s.P H e.acct e.cur (by omega)
    cases hq : aget e.key s.A with
    | none =>
      rw [show (e.acct, e.cur) = e.key from rfl, fI_none hq] at cf
      have hm : miss s.A e = true := by unfold miss; rw [hq]; rfl
      have hy := hy hm
      repeat' (first | ((with_reducible refine gA ?_); (first | refine AW_seq ?_ | refine AW_region ?_ | refine AW_regionD Try.mixed ?_ | (refine AW_cond rfl (fun hc => ?_) (fun hc => ?_) <;> try (exfalso; simp only [cmpL] at hc; omega)) | refine AW_block ?_ | refine AW_ret ?_ | refine AW_skip ?_)) | (first | ((with_reducible refine gS ?_); refine Es_s (T := Try.tab) rfl rfl rfl rfl ?_) | ((with_reducible refine gD ?_); refine Ed_s (T := Try.tab) rfl rfl rfl rfl ?_)) | ((first | ((with_reducible refine gS ?_); apply Es_q) | ((with_reducible refine gD ?_); apply Ed_q)); rfl; rfl; refine LStep_call (cf) rfl rfl rfl rfl) | ((first | ((with_reducible refine gS ?_); apply Es_q) | ((with_reducible refine gD ?_); apply Ed_q)); rfl; rfl; (first | refine LStep_lenM (T := Try.tab) rfl rfl rfl rfl | (refine LStep_indexM (T := Try.tab) (c := ?_) rfl rfl rfl rfl rfl rfl ?_; rotate_left; assumption))) | (((with_reducible refine gS ?_); apply Es_xn); rfl; rfl; (refine LStep_storeN (T := Try.tab) rfl rfl rfl rfl rfl rfl rfl ?_ rfl; (refine Nat.le_of_ble_eq_true ?_; rfl)); rfl) | (with_reducible refine Es_nil ?_) | ((with_reducible refine Ed_nil ?_ ?_); kernel_rfl) | (with_reducible refine then_n ?_) | (with_reducible refine then_r ?_) | (with_reducible refine block_r ?_) | ((with_reducible refine gRG ?_); first | refine retGa rfl ?_ | refine retGb rfl ?_ | refine retGc rfl ?_ | refine retG1 rfl rfl ?_ | refine endG1 rfl rfl ?_))
      all_goals simp only [cmps] at *
      all_goals first
        | (exfalso; omega)
        | exact ne (by unfold refD; rw [if_pos hy]) (by decide)
    | some a =>
      rw [show (e.acct, e.cur) = e.key from rfl, fI_some hq] at cf
      have hm : miss s.A e = false := by unfold miss; rw [hq]; rfl
      have hn := hn hm
      repeat' (first | ((with_reducible refine gA ?_); (first | refine AW_seq ?_ | refine AW_region ?_ | refine AW_regionD Try.mixed ?_ | (refine AW_cond rfl (fun hc => ?_) (fun hc => ?_) <;> try (exfalso; simp only [cmpL] at hc; omega)) | refine AW_block ?_ | refine AW_skip ?_)) | (first | ((with_reducible refine gS ?_); refine Es_s (T := Try.tab) rfl rfl rfl rfl ?_) | ((with_reducible refine gD ?_); refine Ed_s (T := Try.tab) rfl rfl rfl rfl ?_)) | ((first | ((with_reducible refine gS ?_); apply Es_q) | ((with_reducible refine gD ?_); apply Ed_q)); rfl; rfl; refine LStep_call (cf) rfl rfl rfl rfl) | ((first | ((with_reducible refine gS ?_); apply Es_q) | ((with_reducible refine gD ?_); apply Ed_q)); rfl; rfl; (first | refine LStep_lenM (T := Try.tab) rfl rfl rfl rfl | (refine LStep_add rfl rfl rfl rfl ?_; (refine IntWalk.i64_in _ ?_; first | omega | (simp only [cmps] at *; omega))) | (refine LStep_indexM (T := Try.tab) (c := ?_) rfl rfl rfl rfl rfl rfl ?_; rotate_left; assumption))) | (with_reducible refine Es_nil ?_) | ((with_reducible refine Ed_nil ?_ ?_); kernel_rfl) | (with_reducible refine then_n ?_) | (with_reducible refine block_n ?_))
      all_goals simp only [cmps] at *
      all_goals first
        | (exfalso; omega)
        | (refine ⟨k + 1, ?_, by omega, by (repeat' (first | exact trivial | exact rfl | (refine ⟨Or.inl rfl, ?_⟩) | (refine ⟨Or.inr rfl, ?_⟩) | (refine ⟨Or.inr trivial, ?_⟩) | (refine ⟨rfl, ?_⟩) | (refine ⟨?_, ?_⟩))), by (repeat' (first | exact trivial | exact rfl | (refine ⟨Or.inl rfl, ?_⟩) | (refine ⟨Or.inr rfl, ?_⟩) | (refine ⟨Or.inr trivial, ?_⟩) | (refine ⟨rfl, ?_⟩) | (refine ⟨?_, ?_⟩))), by (repeat' (first | exact trivial | exact rfl | (refine ⟨Or.inl rfl, ?_⟩) | (refine ⟨Or.inr rfl, ?_⟩) | (refine ⟨Or.inr trivial, ?_⟩) | (refine ⟨rfl, ?_⟩) | (refine ⟨?_, ?_⟩))), by (repeat' (first | exact trivial | exact rfl | (refine ⟨Or.inl rfl, ?_⟩) | (refine ⟨Or.inr rfl, ?_⟩) | (refine ⟨Or.inr trivial, ?_⟩) | (refine ⟨rfl, ?_⟩) | (refine ⟨?_, ?_⟩)))⟩; exact ⟨by omega, hn⟩)
  have : k = x.length := by omega
  subst this
  rw [List.take_length] at hf
  clear hkl hlt
  repeat' (first | ((with_reducible refine gA ?_); (first | refine AW_seq ?_ | refine AW_region ?_ | (refine AW_cond rfl (fun hc => ?_) (fun hc => ?_) <;> try (exfalso; simp only [cmpL] at hc; omega)) | refine AW_block ?_ | refine AW_exit ?_)) | ((with_reducible refine gS ?_); refine Es_s (T := Try.tab) rfl rfl rfl rfl ?_) | (((with_reducible refine gS ?_); apply Es_q); rfl; rfl; refine LStep_lenM (T := Try.tab) rfl rfl rfl rfl) | (with_reducible refine Es_nil ?_) | (with_reducible refine then_n ?_) | (with_reducible refine then_e ?_) | ((with_reducible refine block_e ?_ ?_); rfl))
  -- no amount is too great
  refine AW_forE (S := Nat) (fun k => k ≤ x.length ∧ (x.take k).any wide = false) (fun k => [(9, .d (.sc (.int .i64 (k : Nat))))]) (fun _ => []) (fun k => x.length - k) 0 ⟨by omega, rfl⟩ (by (repeat' (first | exact trivial | exact rfl | (refine ⟨Or.inl rfl, ?_⟩) | (refine ⟨Or.inr rfl, ?_⟩) | (refine ⟨Or.inr trivial, ?_⟩) | (refine ⟨rfl, ?_⟩) | (refine ⟨?_, ?_⟩)))) (by (repeat' (first | exact trivial | exact rfl | (refine ⟨Or.inl rfl, ?_⟩) | (refine ⟨Or.inr rfl, ?_⟩) | (refine ⟨Or.inr trivial, ?_⟩) | (refine ⟨rfl, ?_⟩) | (refine ⟨?_, ?_⟩)))) ?_
  intro k ⟨hkl, hf2⟩
  by_cases hlt : k < x.length
  · obtain ⟨e, he, _⟩ := drop_at hlt
    obtain ⟨hn, hy⟩ := any_take (f := wide) he hf2
    repeat' (first | ((with_reducible refine gA ?_); (first | refine AW_seq ?_ | refine AW_region ?_ | refine AW_condT rfl ?_ | (refine AW_cond rfl (fun hc => ?_) (fun hc => ?_) <;> try (exfalso; simp only [cmpL] at hc; omega)) | refine AW_block ?_ | refine AW_ret ?_ | refine AW_skip ?_)) | ((with_reducible refine gS ?_); refine Es_s (T := Try.tab) rfl rfl rfl rfl ?_) | (((with_reducible refine gS ?_); apply Es_q); rfl; (first | rfl | (refine w_ff ?_; assumption)); (first | refine LStep_simp (T := Try.tab) rfl rfl | refine LStep_lenM (T := Try.tab) rfl rfl rfl rfl | (refine LStep_add rfl rfl rfl rfl ?_; (refine IntWalk.i64_in _ ?_; first | omega | (simp only [cmps] at *; omega))) | (refine LStep_pickT rfl rfl ?_ rfl rfl; assumption) | (refine LStep_pickF rfl rfl ?_ rfl rfl; assumption) | (refine LStep_indexM (T := Try.tab) (c := ?_) rfl rfl rfl rfl rfl rfl ?_; rotate_left; assumption))) | (refine Es_skip rfl ?_ rfl ?_; (first | rfl | (refine w_tf ?_; assumption) | (refine w_ft ?_; assumption))) | (((with_reducible refine gS ?_); apply Es_xn); rfl; rfl; (refine LStep_storeN (T := Try.tab) rfl rfl rfl rfl rfl rfl rfl ?_ rfl; (refine Nat.le_of_ble_eq_true ?_; rfl)); rfl) | (refine Es_split rfl ?_ (fun _ => ?_) (fun _ => ?_); ((fail_if_success (refine und_t ?_; assumption)); (fail_if_success (refine und_f ?_; assumption)); exact trivial)) | (with_reducible refine Es_nil ?_) | (with_reducible refine then_n ?_) | (with_reducible refine then_r ?_) | (with_reducible refine block_n ?_) | (with_reducible refine block_r ?_) | ((with_reducible refine gRG ?_); first | refine retGa rfl ?_ | refine retGb rfl ?_ | refine retGc rfl ?_ | refine retG1 rfl rfl ?_ | refine endG1 rfl rfl ?_))
    all_goals simp only [cmps] at *
    all_goals first
      | exact ne (by unfold refD; rw [hf, if_neg Bool.false_ne_true, if_pos (hy (by unfold wide; rw [decide_eq_true_eq]; omega))]) (by decide)
      | (refine ⟨k + 1, ?_, by omega, by (repeat' (first | exact trivial | exact rfl | (refine ⟨Or.inl rfl, ?_⟩) | (refine ⟨Or.inr rfl, ?_⟩) | (refine ⟨Or.inr trivial, ?_⟩) | (refine ⟨rfl, ?_⟩) | (refine ⟨?_, ?_⟩))), by (repeat' (first | exact trivial | exact rfl | (refine ⟨Or.inl rfl, ?_⟩) | (refine ⟨Or.inr rfl, ?_⟩) | (refine ⟨Or.inr trivial, ?_⟩) | (refine ⟨rfl, ?_⟩) | (refine ⟨?_, ?_⟩))), by (repeat' (first | exact trivial | exact rfl | (refine ⟨Or.inl rfl, ?_⟩) | (refine ⟨Or.inr rfl, ?_⟩) | (refine ⟨Or.inr trivial, ?_⟩) | (refine ⟨rfl, ?_⟩) | (refine ⟨?_, ?_⟩))), by (repeat' (first | exact trivial | exact rfl | (refine ⟨Or.inl rfl, ?_⟩) | (refine ⟨Or.inr rfl, ?_⟩) | (refine ⟨Or.inr trivial, ?_⟩) | (refine ⟨rfl, ?_⟩) | (refine ⟨?_, ?_⟩)))⟩; exact ⟨by omega, hn (by unfold wide; rw [decide_eq_false_iff_not]; omega)⟩)
  have : k = x.length := by omega
  subst this
  rw [List.take_length] at hf2
  clear hkl hlt
  have h40 : ∀ e ∈ x, e.in40 := fun e he => by
    have := List.any_eq_false.1 hf2 e he
    unfold wide at this
    simp only [decide_eq_true_eq] at this
    exact ⟨by omega, by omega⟩
  have hkey : ∀ e ∈ x, aget e.key s.A ≠ none := fun e he hq => by
    have := List.any_eq_false.1 hf e he
    unfold miss at this
    rw [hq] at this
    exact this rfl
  repeat' (first | ((with_reducible refine gA ?_); (first | refine AW_seq ?_ | refine AW_region ?_ | (refine AW_condN rfl ?_ ?_; assumption) | refine AW_block ?_ | refine AW_exit ?_)) | ((with_reducible refine gS ?_); refine Es_s (T := Try.tab) rfl rfl rfl rfl ?_) | (((with_reducible refine gS ?_); apply Es_q); rfl; rfl; refine LStep_lenM (T := Try.tab) rfl rfl rfl rfl) | (with_reducible refine Es_nil ?_) | (with_reducible refine then_n ?_) | (with_reducible refine then_e ?_) | ((with_reducible refine block_e ?_ ?_); rfl))
  -- all currencies sum to nothing
  refine AW_forE (S := Nat) (fun k => k ≤ x.length ∧ (x.take k).any (offC x) = false) (fun k => [(10, .d (.sc (.int .i64 (k : Nat))))]) (fun _ => []) (fun k => x.length - k) 0 ⟨by omega, rfl⟩ (by (repeat' (first | exact trivial | exact rfl | (refine ⟨Or.inl rfl, ?_⟩) | (refine ⟨Or.inr rfl, ?_⟩) | (refine ⟨Or.inr trivial, ?_⟩) | (refine ⟨rfl, ?_⟩) | (refine ⟨?_, ?_⟩)))) (by (repeat' (first | exact trivial | exact rfl | (refine ⟨Or.inl rfl, ?_⟩) | (refine ⟨Or.inr rfl, ?_⟩) | (refine ⟨Or.inr trivial, ?_⟩) | (refine ⟨rfl, ?_⟩) | (refine ⟨?_, ?_⟩)))) ?_
  intro k ⟨hkl, hf3⟩
  by_cases hlt : k < x.length
  · obtain ⟨e, he, _⟩ := drop_at hlt
    obtain ⟨hn, hy⟩ := any_take (f := offC x) he hf3
    have cs := rsum0_ac x e.cur (by omega)
    rw [wrp_fit (by have := csum_in h40 e.cur; omega)] at cs
    repeat' (first | ((with_reducible refine gA ?_); (first | refine AW_seq ?_ | refine AW_region ?_ | (refine AW_cond rfl (fun hc => ?_) (fun hc => ?_) <;> try (exfalso; simp only [cmpL] at hc; omega)) | refine AW_block ?_ | refine AW_ret ?_ | refine AW_skip ?_)) | ((with_reducible refine gS ?_); refine Es_s (T := Try.tab) rfl rfl rfl rfl ?_) | (((with_reducible refine gS ?_); apply Es_q); rfl; rfl; refine LStep_call (cs) rfl rfl rfl rfl) | (((with_reducible refine gS ?_); apply Es_q); rfl; rfl; (first | refine LStep_lenM (T := Try.tab) rfl rfl rfl rfl | (refine LStep_add rfl rfl rfl rfl ?_; (refine IntWalk.i64_in _ ?_; first | omega | (simp only [cmps] at *; omega))) | (refine LStep_indexM (T := Try.tab) (c := ?_) rfl rfl rfl rfl rfl rfl ?_; rotate_left; assumption))) | (((with_reducible refine gS ?_); apply Es_xn); rfl; rfl; (refine LStep_storeN (T := Try.tab) rfl rfl rfl rfl rfl rfl rfl ?_ rfl; (refine Nat.le_of_ble_eq_true ?_; rfl)); rfl) | (with_reducible refine Es_nil ?_) | (with_reducible refine then_n ?_) | (with_reducible refine then_r ?_) | (with_reducible refine block_n ?_) | (with_reducible refine block_r ?_) | ((with_reducible refine gRG ?_); first | refine retGa rfl ?_ | refine retGb rfl ?_ | refine retGc rfl ?_ | refine retG1 rfl rfl ?_ | refine endG1 rfl rfl ?_))
    all_goals simp only [cmps] at *
    all_goals first
      | exact ne (by unfold refD; rw [hf, if_neg Bool.false_ne_true, hf2, if_neg Bool.false_ne_true, if_pos (hy (by unfold offC; rw [decide_eq_true_eq]; assumption))]) (by decide)
      | (refine ⟨k + 1, ?_, by omega, by (repeat' (first | exact trivial | exact rfl | (refine ⟨Or.inl rfl, ?_⟩) | (refine ⟨Or.inr rfl, ?_⟩) | (refine ⟨Or.inr trivial, ?_⟩) | (refine ⟨rfl, ?_⟩) | (refine ⟨?_, ?_⟩))), by (repeat' (first | exact trivial | exact rfl | (refine ⟨Or.inl rfl, ?_⟩) | (refine ⟨Or.inr rfl, ?_⟩) | (refine ⟨Or.inr trivial, ?_⟩) | (refine ⟨rfl, ?_⟩) | (refine ⟨?_, ?_⟩))), by (repeat' (first | exact trivial | exact rfl | (refine ⟨Or.inl rfl, ?_⟩) | (refine ⟨Or.inr rfl, ?_⟩) | (refine ⟨Or.inr trivial, ?_⟩) | (refine ⟨rfl, ?_⟩) | (refine ⟨?_, ?_⟩))), by (repeat' (first | exact trivial | exact rfl | (refine ⟨Or.inl rfl, ?_⟩) | (refine ⟨Or.inr rfl, ?_⟩) | (refine ⟨Or.inr trivial, ?_⟩) | (refine ⟨rfl, ?_⟩) | (refine ⟨?_, ?_⟩)))⟩; exact ⟨by omega, hn (by unfold offC; rw [decide_eq_false_iff_not]; omega)⟩)
  have : k = x.length := by omega
  subst this
  rw [List.take_length] at hf3
  clear hkl hlt
  repeat' (first | ((with_reducible refine gA ?_); (first | refine AW_seq ?_ | refine AW_region ?_ | (refine AW_condN rfl ?_ ?_; assumption) | refine AW_block ?_ | refine AW_exit ?_)) | ((with_reducible refine gS ?_); refine Es_s (T := Try.tab) rfl rfl rfl rfl ?_) | (((with_reducible refine gS ?_); apply Es_q); rfl; rfl; refine LStep_lenM (T := Try.tab) rfl rfl rfl rfl) | (with_reducible refine Es_nil ?_) | (with_reducible refine then_n ?_) | (with_reducible refine then_e ?_) | ((with_reducible refine block_e ?_ ?_); rfl))
  -- no account is too full
  refine AW_forE (S := Nat) (fun k => k ≤ s.A.length ∧ (s.A.take k).any (overD x) = false) (fun k => [(11, .d (.sc (.int .i64 (k : Nat))))]) (fun _ => []) (fun k => s.A.length - k) 0 ⟨by omega, rfl⟩ (by (repeat' (first | exact trivial | exact rfl | (refine ⟨Or.inl rfl, ?_⟩) | (refine ⟨Or.inr rfl, ?_⟩) | (refine ⟨Or.inr trivial, ?_⟩) | (refine ⟨rfl, ?_⟩) | (refine ⟨?_, ?_⟩)))) (by (repeat' (first | exact trivial | exact rfl | (refine ⟨Or.inl rfl, ?_⟩) | (refine ⟨Or.inr rfl, ?_⟩) | (refine ⟨Or.inr trivial, ?_⟩) | (refine ⟨rfl, ?_⟩) | (refine ⟨?_, ?_⟩)))) ?_
  intro k ⟨hkl, hf4⟩
  by_cases hlt : k < s.A.length
  · obtain ⟨p, hp, _⟩ := drop_at hlt
    obtain ⟨hn, hy⟩ := any_take (f := overD x) hp hf4
    have cs := rsumK_ac x p.1.1 p.1.2 (by omega) (nm_ne (hH.nm p (List.mem_of_getElem? hp)))
    repeat' (first | ((with_reducible refine gA ?_); (first | refine AW_seq ?_ | refine AW_region ?_ | refine AW_regionD Try.mixed ?_ | (refine AW_cond rfl (fun hc => ?_) (fun hc => ?_) <;> try (exfalso; simp only [cmpL] at hc; omega)) | refine AW_block ?_ | refine AW_ret ?_ | refine AW_skip ?_)) | (first | ((with_reducible refine gS ?_); refine Es_s (T := Try.tab) rfl rfl rfl rfl ?_) | ((with_reducible refine gD ?_); refine Ed_s (T := Try.tab) rfl rfl rfl rfl ?_)) | ((first | ((with_reducible refine gS ?_); apply Es_q) | ((with_reducible refine gD ?_); apply Ed_q)); rfl; rfl; refine LStep_call (cs) rfl rfl rfl rfl) | ((first | ((with_reducible refine gS ?_); apply Es_q) | ((with_reducible refine gD ?_); apply Ed_q)); rfl; rfl; (first | refine LStep_lenM (T := Try.tab) rfl rfl rfl rfl | (refine LStep_add rfl rfl rfl rfl ?_; (refine IntWalk.i64_in _ ?_; first | omega | (simp only [cmps] at *; omega))) | refine LStep_wrap (T := Try.tab) rfl rfl | (refine LStep_indexM (T := Try.tab) (c := ?_) rfl rfl rfl rfl rfl rfl ?_; rotate_left; assumption))) | (((with_reducible refine gS ?_); apply Es_xn); rfl; rfl; (refine LStep_storeN (T := Try.tab) rfl rfl rfl rfl rfl rfl rfl ?_ rfl; (refine Nat.le_of_ble_eq_true ?_; rfl)); rfl) | (with_reducible refine Es_nil ?_) | ((with_reducible refine Ed_nil ?_ ?_); kernel_rfl) | (with_reducible refine then_n ?_) | (with_reducible refine then_r ?_) | (with_reducible refine block_n ?_) | (with_reducible refine block_r ?_) | ((with_reducible refine gRG ?_); first | refine retGa rfl ?_ | refine retGb rfl ?_ | refine retGc rfl ?_ | refine retG1 rfl rfl ?_ | refine endG1 rfl rfl ?_))
    all_goals simp only [cmps] at *
    all_goals first
      | exact ne (by unfold refD; rw [hf, if_neg Bool.false_ne_true, hf2, if_neg Bool.false_ne_true, hf3, if_neg Bool.false_ne_true, if_pos (hy (by unfold overD; rw [decide_eq_true_eq]; assumption))]) (by decide)
      | (refine ⟨k + 1, ?_, by omega, by (repeat' (first | exact trivial | exact rfl | (refine ⟨Or.inl rfl, ?_⟩) | (refine ⟨Or.inr rfl, ?_⟩) | (refine ⟨Or.inr trivial, ?_⟩) | (refine ⟨rfl, ?_⟩) | (refine ⟨?_, ?_⟩))), by (repeat' (first | exact trivial | exact rfl | (refine ⟨Or.inl rfl, ?_⟩) | (refine ⟨Or.inr rfl, ?_⟩) | (refine ⟨Or.inr trivial, ?_⟩) | (refine ⟨rfl, ?_⟩) | (refine ⟨?_, ?_⟩))), by (repeat' (first | exact trivial | exact rfl | (refine ⟨Or.inl rfl, ?_⟩) | (refine ⟨Or.inr rfl, ?_⟩) | (refine ⟨Or.inr trivial, ?_⟩) | (refine ⟨rfl, ?_⟩) | (refine ⟨?_, ?_⟩))), by (repeat' (first | exact trivial | exact rfl | (refine ⟨Or.inl rfl, ?_⟩) | (refine ⟨Or.inr rfl, ?_⟩) | (refine ⟨Or.inr trivial, ?_⟩) | (refine ⟨rfl, ?_⟩) | (refine ⟨?_, ?_⟩)))⟩; exact ⟨by omega, hn (by unfold overD; rw [decide_eq_false_iff_not]; exact Int.not_lt.2 (by assumption))⟩)
  have : k = s.A.length := by omega
  subst this
  rw [List.take_length] at hf4
  clear hkl hlt
  repeat' (first | ((with_reducible refine gA ?_); (first | refine AW_seq ?_ | refine AW_region ?_ | (refine AW_cond rfl (fun hc => ?_) (fun hc => ?_) <;> try (exfalso; simp only [cmpL] at hc; omega)) | refine AW_block ?_ | refine AW_exit ?_)) | ((with_reducible refine gS ?_); refine Es_s (T := Try.tab) rfl rfl rfl rfl ?_) | (((with_reducible refine gS ?_); apply Es_q); rfl; rfl; refine LStep_lenM (T := Try.tab) rfl rfl rfl rfl) | (with_reducible refine Es_nil ?_) | (with_reducible refine then_n ?_) | (with_reducible refine then_e ?_) | ((with_reducible refine block_e ?_ ?_); rfl))
  -- no account is too empty
  refine AW_forE (S := Nat) (fun k => k ≤ s.A.length ∧ (s.A.take k).any (lackD x) = false) (fun k => [(12, .d (.sc (.int .i64 (k : Nat))))]) (fun _ => []) (fun k => s.A.length - k) 0 ⟨by omega, rfl⟩ (by (repeat' (first | exact trivial | exact rfl | (refine ⟨Or.inl rfl, ?_⟩) | (refine ⟨Or.inr rfl, ?_⟩) | (refine ⟨Or.inr trivial, ?_⟩) | (refine ⟨rfl, ?_⟩) | (refine ⟨?_, ?_⟩)))) (by (repeat' (first | exact trivial | exact rfl | (refine ⟨Or.inl rfl, ?_⟩) | (refine ⟨Or.inr rfl, ?_⟩) | (refine ⟨Or.inr trivial, ?_⟩) | (refine ⟨rfl, ?_⟩) | (refine ⟨?_, ?_⟩)))) ?_
  intro k ⟨hkl, hf5⟩
  by_cases hlt : k < s.A.length
  · obtain ⟨p, hp, _⟩ := drop_at hlt
    obtain ⟨hn, hy⟩ := any_take (f := lackD x) hp hf5
    have cs := rsumK_ac x p.1.1 p.1.2 (by omega) (nm_ne (hH.nm p (List.mem_of_getElem? hp)))
    have cr := rfree_ac s.A s.P H k p (by omega) hp
    rw [doc_held hH hs hv (List.mem_of_getElem? hp), ← Acc.fr] at cr
    repeat' (first | ((with_reducible refine gA ?_); (first | refine AW_seq ?_ | refine AW_region ?_ | refine AW_regionD Try.mixed ?_ | refine AW_condF rfl ?_ | (refine AW_cond rfl (fun hc => ?_) (fun hc => ?_) <;> try (exfalso; simp only [cmpL] at hc; omega)) | refine AW_block ?_ | refine AW_ret ?_ | refine AW_skip ?_)) | (first | ((with_reducible refine gS ?_); refine Es_s (T := Try.tab) rfl rfl rfl rfl ?_) | ((with_reducible refine gD ?_); refine Ed_s (T := Try.tab) rfl rfl rfl rfl ?_)) | ((first | ((with_reducible refine gS ?_); apply Es_q) | ((with_reducible refine gD ?_); apply Ed_q)); rfl; (first | rfl | (refine w_tt ?_; assumption)); (first | refine LStep_call (cs) rfl rfl rfl rfl | refine LStep_call (cr) rfl rfl rfl rfl)) | ((first | ((with_reducible refine gS ?_); apply Es_q) | ((with_reducible refine gD ?_); apply Ed_q)); rfl; (first | rfl | (refine w_tt ?_; assumption)); (first | refine LStep_simp (T := Try.tab) rfl rfl | refine LStep_lenM (T := Try.tab) rfl rfl rfl rfl | (refine LStep_add rfl rfl rfl rfl ?_; (refine IntWalk.i64_in _ ?_; first | omega | (simp only [cmps] at *; omega))) | (refine LStep_pickT rfl rfl ?_ rfl rfl; assumption) | (refine LStep_pickF rfl rfl ?_ rfl rfl; assumption) | (refine LStep_indexM (T := Try.tab) (c := ?_) rfl rfl rfl rfl rfl rfl ?_; rotate_left; assumption))) | (refine Es_skip rfl ?_ rfl ?_; (first | rfl | (refine w_tf ?_; assumption) | (refine w_ft ?_; assumption))) | (((with_reducible refine gS ?_); apply Es_xn); rfl; rfl; (refine LStep_storeN (T := Try.tab) rfl rfl rfl rfl rfl rfl rfl ?_ rfl; (refine Nat.le_of_ble_eq_true ?_; rfl)); rfl) | (refine Es_split rfl ?_ (fun _ => ?_) (fun _ => ?_); ((fail_if_success (refine und_t ?_; assumption)); (fail_if_success (refine und_f ?_; assumption)); exact trivial)) | (with_reducible refine Es_nil ?_) | ((with_reducible refine Ed_nil ?_ ?_); kernel_rfl) | (with_reducible refine then_n ?_) | (with_reducible refine then_r ?_) | (with_reducible refine block_n ?_) | (with_reducible refine block_r ?_) | ((with_reducible refine gRG ?_); first | refine retGa rfl ?_ | refine retGb rfl ?_ | refine retGc rfl ?_ | refine retG1 rfl rfl ?_ | refine endG1 rfl rfl ?_))
    all_goals simp only [cmps] at *
    all_goals first
      | exact ne (by unfold refD; rw [hf, if_neg Bool.false_ne_true, hf2, if_neg Bool.false_ne_true, hf3, if_neg Bool.false_ne_true, hf4, if_neg Bool.false_ne_true, if_pos (hy (by unfold lackD; rw [decide_eq_true_eq]; exact ⟨by assumption, by assumption⟩))]) (by decide)
      | (refine ⟨k + 1, ?_, by omega, by (repeat' (first | exact trivial | exact rfl | (refine ⟨Or.inl rfl, ?_⟩) | (refine ⟨Or.inr rfl, ?_⟩) | (refine ⟨Or.inr trivial, ?_⟩) | (refine ⟨rfl, ?_⟩) | (refine ⟨?_, ?_⟩))), by (repeat' (first | exact trivial | exact rfl | (refine ⟨Or.inl rfl, ?_⟩) | (refine ⟨Or.inr rfl, ?_⟩) | (refine ⟨Or.inr trivial, ?_⟩) | (refine ⟨rfl, ?_⟩) | (refine ⟨?_, ?_⟩))), by (repeat' (first | exact trivial | exact rfl | (refine ⟨Or.inl rfl, ?_⟩) | (refine ⟨Or.inr rfl, ?_⟩) | (refine ⟨Or.inr trivial, ?_⟩) | (refine ⟨rfl, ?_⟩) | (refine ⟨?_, ?_⟩))), by (repeat' (first | exact trivial | exact rfl | (refine ⟨Or.inl rfl, ?_⟩) | (refine ⟨Or.inr rfl, ?_⟩) | (refine ⟨Or.inr trivial, ?_⟩) | (refine ⟨rfl, ?_⟩) | (refine ⟨?_, ?_⟩)))⟩; exact ⟨by omega, hn (by unfold lackD; rw [decide_eq_false_iff_not]; intro hh; first | exact absurd hh.1 (Int.not_lt.2 (by assumption)) | exact absurd hh.2 (Int.not_lt.2 (by assumption)))⟩)
  have : k = s.A.length := by omega
  subst this
  rw [List.take_length] at hf5
  clear hkl hlt
  have cb := rbook_ac s.A s.P H t x (by omega) (by omega) hl h40 hkey hs.nA (fun p hp => acc_bal2 (hv.acc _ _ (aget_of_mem hs.nA (k := p.1) (c := p.2) hp)))
  have h0 : refD s.A x = 0 := by unfold refD; rw [hf, if_neg Bool.false_ne_true, hf2, if_neg Bool.false_ne_true, hf3, if_neg Bool.false_ne_true, hf4, if_neg Bool.false_ne_true, hf5, if_neg Bool.false_ne_true]
  rw [h0, if_pos rfl]
  repeat' (first | ((with_reducible refine gA ?_); (first | refine AW_seq ?_ | refine AW_region ?_ | (refine AW_condN rfl ?_ ?_; assumption) | refine AW_ret ?_ | refine AW_exit ?_)) | ((with_reducible refine gS ?_); refine Es_s (T := Try.tab) rfl rfl rfl rfl ?_) | (((with_reducible refine gS ?_); apply Es_q); rfl; rfl; refine LStep_call (cb) rfl rfl rfl rfl) | (((with_reducible refine gS ?_); apply Es_q); rfl; rfl; refine LStep_lenM (T := Try.tab) rfl rfl rfl rfl) | (((with_reducible refine gS ?_); apply Es_xn); rfl; rfl; (refine LStep_storeN (T := Try.tab) rfl rfl rfl rfl rfl rfl rfl ?_ rfl; (refine Nat.le_of_ble_eq_true ?_; rfl)); rfl) | (with_reducible refine Es_nil ?_) | (with_reducible refine then_n ?_) | (with_reducible refine then_e ?_) | ((with_reducible refine block_e ?_ ?_); rfl) | ((with_reducible refine gRG ?_); first | refine retGa rfl ?_ | refine retGb rfl ?_ | refine retGc rfl ?_ | refine retG1 rfl rfl ?_ | refine endG1 rfl rfl ?_))
  rfl
end Go.Proofs.Ytbekoielblcbmaa
