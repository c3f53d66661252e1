import Derived.Test.YtofdnkgieigncaaV2
namespace Go.Proofs.Ytofdnkgieigncaa
open Go.SL

/-! ### ledger.refused -/
def Ent.key (e : Ent) : K2 := (e.acct, e.cur)
theorem chgL_keys (l : List Ent) : (akeys (chgL l)).Nodup ∧ ∀ k, k ∈ akeys (chgL l) ↔ ∃ e ∈ l, e.key = k := by
  refine list_snoc (p := fun l => (akeys (chgL l)).Nodup ∧ ∀ k, k ∈ akeys (chgL l) ↔ ∃ e ∈ l, e.key = k) ⟨by simp [chgL, akeys], fun k => by simp [chgL, akeys]⟩ (fun l e ih => ?_) l
  obtain ⟨h1, h2⟩ := ih
  rw [chgL_snoc, chgK]
  refine ⟨nodup_put h1, fun k => ?_⟩
  rw [akeys_put]
  have hk : k = (e.acct, e.cur) ↔ e.key = k := ⟨fun h => h.symm, fun h => h.symm⟩
  split
  · rename_i hin
    rw [h2]
    constructor
    · rintro ⟨x, hx, rfl⟩; exact ⟨x, by simp [hx], rfl⟩
    · rintro ⟨x, hx, rfl⟩
      rcases List.mem_append.1 hx with hx | hx
      · exact ⟨x, hx, rfl⟩
      · simp only [List.mem_singleton] at hx
        subst hx
        exact (h2 _).1 hin
  · rw [List.mem_append, h2, List.mem_singleton, hk]
    constructor
    · rintro (⟨x, hx, rfl⟩ | h)
      · exact ⟨x, by simp [hx], rfl⟩
      · exact ⟨e, by simp, h⟩
    · rintro ⟨x, hx, rfl⟩
      rcases List.mem_append.1 hx with hx | hx
      · exact .inl ⟨x, hx, rfl⟩
      · simp only [List.mem_singleton] at hx
        subst hx
        exact .inr rfl
theorem sumL_keys (l : List Ent) : (akeys (sumL l)).Nodup ∧ ∀ k, k ∈ akeys (sumL l) ↔ ∃ e ∈ l, e.cur = k := by
  refine list_snoc (p := fun l => (akeys (sumL l)).Nodup ∧ ∀ k, k ∈ akeys (sumL l) ↔ ∃ e ∈ l, e.cur = k) ⟨by simp [sumL, akeys], fun k => by simp [sumL, akeys]⟩ (fun l e ih => ?_) l
  obtain ⟨h1, h2⟩ := ih
  rw [sumL_snoc, sumK]
  refine ⟨nodup_put h1, fun k => ?_⟩
  rw [akeys_put]
  have hk : k = e.cur ↔ e.cur = k := ⟨fun h => h.symm, fun h => h.symm⟩
  split
  · rename_i hin
    rw [h2]
    constructor
    · rintro ⟨x, hx, rfl⟩; exact ⟨x, by simp [hx], rfl⟩
    · rintro ⟨x, hx, rfl⟩
      rcases List.mem_append.1 hx with hx | hx
      · exact ⟨x, hx, rfl⟩
      · simp only [List.mem_singleton] at hx
        subst hx
        exact (h2 _).1 hin
  · rw [List.mem_append, h2, List.mem_singleton, hk]
    constructor
    · rintro (⟨x, hx, rfl⟩ | h)
      · exact ⟨x, by simp [hx], rfl⟩
      · exact ⟨e, by simp, h⟩
    · rintro ⟨x, hx, rfl⟩
      rcases List.mem_append.1 hx with hx | hx
      · exact .inl ⟨x, hx, rfl⟩
      · simp only [List.mem_singleton] at hx
        subst hx
        exact .inr rfl
def balA (A : List (K2 × Acc)) (k : K2) : Int := ((aget k A).getD ⟨0, 0, 0⟩).bal
def frA (A : List (K2 × Acc)) (k : K2) : Int := ((aget k A).getD ⟨0, 0, 0⟩).fr
def miss (A : List (K2 × Acc)) (e : Ent) : Bool := (aget e.key A).isNone
def wide (e : Ent) : Bool := decide (e.amt < -1099511627776 ∨ 1099511627776 < e.amt)
def off0 (p : ByteArray × Int) : Bool := decide (p.2 ≠ 0)
def over (A : List (K2 × Acc)) (p : K2 × Int) : Bool := decide (1099511627776 < wrp .i64 (balA A p.1 + p.2))
def lackA (A : List (K2 × Acc)) (p : K2 × Int) : Bool := decide (p.2 < 0 ∧ frA A p.1 < -p.2)
def refS (A : List (K2 × Acc)) (x : List Ent) : Int :=
  if x.any (miss A) = true then 4 else if x.any wide = true then 3 else if (sumL x).any off0 = true then 2 else if (chgL x).any (over A) = true then 3 else if (chgL x).any (lackA A) = true then 10 else 0
theorem any_take {α : Type} {f : α → Bool} {l : List α} {k : Nat} {c : α} (hc : l[k]? = some c) (hf : (l.take k).any f = false) : (f c = false → (l.take (k + 1)).any f = false) ∧ (f c = true → l.any f = true) := by
  have h1 : (l.take (k + 1)).any f = f c := by rw [take_at hc, List.any_append, hf]; simp
  refine ⟨fun h => by rw [h1, h], fun h => ?_⟩
  rw [List.any_eq_true]
  exact ⟨c, List.mem_of_getElem? hc, h⟩
theorem any_perm {α : Type} {f : α → Bool} {l m : List α} (h : l.Perm m) (hf : l.any f = false) : m.any f = false := by
  rw [List.any_eq_false] at hf ⊢
  exact fun x hx => hf x (h.mem_iff.2 hx)
theorem perm_mid {α : Type} {acc a b m : List α} {p : α} (hp : (acc ++ (a ++ p :: b)).Perm m) : ((acc ++ [p]) ++ (a ++ b)).Perm m := by
  refine List.Perm.trans ?_ hp
  rw [List.append_assoc]
  exact List.Perm.append_left acc (List.perm_middle (a := p) (l₁ := a) (l₂ := b)).symm
theorem any_snoc {α : Type} {f : α → Bool} {l : List α} {x : α} (h : l.any f = false) (hx : f x = false) : (l ++ [x]).any f = false := by rw [List.any_append, h]; simp [hx]
theorem ref_fin {x k : Int} {h h' : Hp} (e : x = k) (hs : SubH h h') : AV.d (.sc (.int .i64 k)) = AV.d (.sc (.int .i64 x)) ∧ SubH h h' := by rw [e]; exact ⟨rfl, hs⟩
set_option maxRecDepth 10000 in
set_option maxHeartbeats 4000000 in
theorem refused_ac (s : Led) (x : List Ent) (hx : x.length ≤ 4096) : AC Try.prog 23 [.ptr 1000 0, .d (.sl 3 (x.map Ent.enc))] (hL s) [1000, 1001, 1002, 1003]
    (fun r h' => r = .d (.sc (.int .i64 (refS s.A x))) ∧ SubH (hL s) h') := by
  refine AC_enter Try.func23 rfl Try.ntmps23 (rv := [.tmp 4]) rfl rfl (by simp) (fun w X G => ?_)
  repeat' (first | ((with_reducible refine gA ?_); (first | refine AW_seq ?_ | refine AW_region ?_ | refine AW_block ?_)) | ((with_reducible refine gS ?_); refine Es_s (T := Try.tab) rfl rfl rfl rfl ?_) | (((with_reducible refine gS ?_); apply Es_q); rfl; rfl; refine LStep_lenM (T := Try.tab) rfl rfl rfl rfl) | (with_reducible refine Es_nil ?_) | (with_reducible refine then_n ?_))
  -- every account is there
  refine AW_forE (S := Nat) (fun k => k ≤ x.length ∧ (x.take k).any (miss s.A) = false) (fun k => [(21, .d (.sc (.int .i64 (k : Nat))))]) (fun _ => []) (fun k => x.length - k) 0 ⟨by omega, by simp⟩ (by (repeat' (first | exact trivial | exact rfl | (refine ⟨Or.inl rfl, ?_⟩) | (refine ⟨Or.inr rfl, ?_⟩) | (refine ⟨Or.inr trivial, ?_⟩) | (refine ⟨rfl, ?_⟩) | (refine ⟨?_, ?_⟩)))) (by (repeat' (first | exact trivial | exact rfl | (refine ⟨Or.inl rfl, ?_⟩) | (refine ⟨Or.inr rfl, ?_⟩) | (refine ⟨Or.inr trivial, ?_⟩) | (refine ⟨rfl, ?_⟩) | (refine ⟨?_, ?_⟩)))) ?_
  intro k ⟨hk, hf⟩
  by_cases hlt : k < x.length
  · obtain ⟨e, he, _⟩ := drop_at hlt
    obtain ⟨f1, f2⟩ := any_take (f := miss s.A) he hf
    cases hq : aget e.key s.A with
    | some a =>
      have hm := mfind_some (cv := aV) k2V_keq hq
      repeat' (first | ((with_reducible refine gA ?_); (first | refine AW_seq ?_ | refine AW_region ?_ | refine AW_regionD Try.mixed ?_ | refine AW_condF rfl ?_ | (refine AW_cond rfl (fun hc => ?_) (fun hc => ?_) <;> try (exfalso; simp only [cmpL] at hc; omega)) | refine AW_block ?_ | refine AW_skip ?_)) | (first | ((with_reducible refine gS ?_); refine Es_s (T := Try.tab) rfl rfl rfl rfl ?_) | ((with_reducible refine gD ?_); refine Ed_s (T := Try.tab) rfl rfl rfl rfl ?_)) | ((first | ((with_reducible refine gS ?_); apply Es_q) | ((with_reducible refine gD ?_); apply Ed_q)); rfl; rfl; refine LStep_lookupOk (T := Try.tab) rfl rfl rfl keyK2 rfl rfl rfl rfl (k2_keys _) hm) | ((first | ((with_reducible refine gS ?_); apply Es_q) | ((with_reducible refine gD ?_); apply Ed_q)); rfl; rfl; (first | (refine LStep_add rfl rfl rfl rfl ?_; (refine IntWalk.i64_in _ ?_; first | omega | (simp only [cmps] at *; omega))) | (refine LStep_indexM (T := Try.tab) (c := ?_) rfl rfl rfl rfl rfl rfl ?_; rotate_left; assumption) | refine LStep_buildN (T := Try.tab) rfl rfl rfl rfl rfl rfl rfl)) | ((first | refine Es_skip rfl ?_ rfl ?_ | refine Ed_skip rfl ?_ rfl ?_); (first | rfl | (refine w_tf ?_; assumption) | (refine w_ft ?_; assumption))) | ((first | ((with_reducible refine gS ?_); apply Es_xs) | ((with_reducible refine gD ?_); apply Ed_xs)); rfl; rfl; refine LStep_allocN (T := Try.tab) rfl rfl rfl rfl rfl rfl; rfl) | ((first | ((with_reducible refine gS ?_); apply Es_xn) | ((with_reducible refine gD ?_); apply Ed_xn)); rfl; rfl; (refine LStep_storeN (T := Try.tab) rfl rfl rfl rfl rfl rfl rfl ?_ rfl; (refine Nat.le_of_ble_eq_true ?_; rfl)); rfl) | (with_reducible refine Es_nil ?_) | ((with_reducible refine Ed_nil ?_ ?_); kernel_rfl) | (with_reducible refine then_n ?_) | (with_reducible refine block_n ?_))
      refine ⟨k + 1, ?_, by omega, by (repeat' (first | exact trivial | exact rfl | (refine ⟨Or.inl rfl, ?_⟩) | (refine ⟨Or.inr rfl, ?_⟩) | (refine ⟨Or.inr trivial, ?_⟩) | (refine ⟨rfl, ?_⟩) | (refine ⟨?_, ?_⟩))), by (repeat' (first | exact trivial | exact rfl | (refine ⟨Or.inl rfl, ?_⟩) | (refine ⟨Or.inr rfl, ?_⟩) | (refine ⟨Or.inr trivial, ?_⟩) | (refine ⟨rfl, ?_⟩) | (refine ⟨?_, ?_⟩))), by (repeat' (first | exact trivial | exact rfl | (refine ⟨Or.inl rfl, ?_⟩) | (refine ⟨Or.inr rfl, ?_⟩) | (refine ⟨Or.inr trivial, ?_⟩) | (refine ⟨rfl, ?_⟩) | (refine ⟨?_, ?_⟩))), by (repeat' (first | exact trivial | exact rfl | (refine ⟨Or.inl rfl, ?_⟩) | (refine ⟨Or.inr rfl, ?_⟩) | (refine ⟨Or.inr trivial, ?_⟩) | (refine ⟨rfl, ?_⟩) | (refine ⟨?_, ?_⟩)))⟩; exact ⟨by omega, f1 (by unfold miss; rw [hq]; rfl)⟩
    | none =>
      have hm := mfind_no (cv := aV) k2V_keq hq
      repeat' (first | ((with_reducible refine gA ?_); (first | refine AW_seq ?_ | refine AW_region ?_ | refine AW_regionD Try.mixed ?_ | refine AW_condT rfl ?_ | (refine AW_cond rfl (fun hc => ?_) (fun hc => ?_) <;> try (exfalso; simp only [cmpL] at hc; omega)) | refine AW_block ?_ | refine AW_ret ?_ | refine AW_skip ?_)) | (first | ((with_reducible refine gS ?_); refine Es_s (T := Try.tab) rfl rfl rfl rfl ?_) | ((with_reducible refine gD ?_); refine Ed_s (T := Try.tab) rfl rfl rfl rfl ?_)) | ((first | ((with_reducible refine gS ?_); apply Es_q) | ((with_reducible refine gD ?_); apply Ed_q)); rfl; rfl; refine LStep_lookupNoZ (T := Try.tab) rfl rfl rfl keyK2 rfl rfl rfl rfl rfl rfl (k2_keys _) hm) | ((first | ((with_reducible refine gS ?_); apply Es_q) | ((with_reducible refine gD ?_); apply Ed_q)); rfl; rfl; (first | (refine LStep_indexM (T := Try.tab) (c := ?_) rfl rfl rfl rfl rfl rfl ?_; rotate_left; assumption) | refine LStep_buildN (T := Try.tab) rfl rfl rfl rfl rfl rfl rfl)) | ((first | refine Es_skip rfl ?_ rfl ?_ | refine Ed_skip rfl ?_ rfl ?_); (first | rfl | (refine w_tf ?_; assumption) | (refine w_ft ?_; assumption))) | ((first | ((with_reducible refine gS ?_); apply Es_xs) | ((with_reducible refine gD ?_); apply Ed_xs)); rfl; rfl; refine LStep_allocN (T := Try.tab) rfl rfl rfl rfl rfl rfl; rfl) | ((first | ((with_reducible refine gS ?_); apply Es_xn) | ((with_reducible refine gD ?_); apply Ed_xn)); rfl; rfl; (refine LStep_storeN (T := Try.tab) rfl rfl rfl rfl rfl rfl rfl ?_ rfl; (refine Nat.le_of_ble_eq_true ?_; rfl)); rfl) | (with_reducible refine Es_nil ?_) | ((with_reducible refine Ed_nil ?_ ?_); kernel_rfl) | (with_reducible refine then_n ?_) | (with_reducible refine then_r ?_) | (with_reducible refine block_r ?_) | ((with_reducible refine gR ?_); first | refine ret1 rfl ?_ | refine ret2 rfl rfl ?_ | refine ret0 ?_ | refine end1 rfl ?_ | refine end0 ?_))
      refine ref_fin ?_ ⟨rfl, rfl, rfl, rfl, trivial⟩
      rw [refS, if_pos (f2 (by unfold miss; rw [hq]; rfl))]
  have : k = x.length := by omega
  subst this
  rw [List.take_length] at hf
  clear hk hlt
  repeat' (first | ((with_reducible refine gA ?_); (first | refine AW_seq ?_ | refine AW_region ?_ | (refine AW_cond rfl (fun hc => ?_) (fun hc => ?_) <;> try (exfalso; simp only [cmpL] at hc; omega)) | refine AW_block ?_ | refine AW_exit ?_)) | ((with_reducible refine gS ?_); refine Es_s (T := Try.tab) rfl rfl rfl rfl ?_) | (((with_reducible refine gS ?_); apply Es_q); rfl; rfl; refine LStep_lenM (T := Try.tab) rfl rfl rfl rfl) | (with_reducible refine Es_nil ?_) | (with_reducible refine then_n ?_) | (with_reducible refine then_e ?_) | ((with_reducible refine block_e ?_ ?_); rfl))
  -- no amount is too great
  refine AW_forE (S := Nat) (fun k => k ≤ x.length ∧ (x.take k).any wide = false) (fun k => [(43, .d (.sc (.int .i64 (k : Nat))))]) (fun _ => []) (fun k => x.length - k) 0 ⟨by omega, by simp⟩ (by (repeat' (first | exact trivial | exact rfl | (refine ⟨Or.inl rfl, ?_⟩) | (refine ⟨Or.inr rfl, ?_⟩) | (refine ⟨Or.inr trivial, ?_⟩) | (refine ⟨rfl, ?_⟩) | (refine ⟨?_, ?_⟩)))) (by (repeat' (first | exact trivial | exact rfl | (refine ⟨Or.inl rfl, ?_⟩) | (refine ⟨Or.inr rfl, ?_⟩) | (refine ⟨Or.inr trivial, ?_⟩) | (refine ⟨rfl, ?_⟩) | (refine ⟨?_, ?_⟩)))) ?_
  intro k ⟨hk, hg⟩
  by_cases hlt : k < x.length
  · obtain ⟨e, he, _⟩ := drop_at hlt
    obtain ⟨f1, f2⟩ := any_take (f := wide) he hg
    repeat' (first | ((with_reducible refine gA ?_); (first | refine AW_seq ?_ | refine AW_region ?_ | refine AW_condT rfl ?_ | (refine AW_cond rfl (fun hc => ?_) (fun hc => ?_) <;> try (exfalso; simp only [cmpL] at hc; omega)) | refine AW_block ?_ | refine AW_ret ?_ | refine AW_skip ?_)) | ((with_reducible refine gS ?_); refine Es_s (T := Try.tab) rfl rfl rfl rfl ?_) | (((with_reducible refine gS ?_); apply Es_q); rfl; (first | rfl | (refine w_ff ?_; assumption)); (first | refine LStep_simp (T := Try.tab) rfl rfl | (refine LStep_add rfl rfl rfl rfl ?_; (refine IntWalk.i64_in _ ?_; first | omega | (simp only [cmps] at *; omega))) | (refine LStep_pickT rfl rfl ?_ rfl rfl; assumption) | (refine LStep_pickF rfl rfl ?_ rfl rfl; assumption) | (refine LStep_indexM (T := Try.tab) (c := ?_) rfl rfl rfl rfl rfl rfl ?_; rotate_left; assumption))) | (refine Es_skip rfl ?_ rfl ?_; (first | rfl | (refine w_tf ?_; assumption) | (refine w_ft ?_; assumption))) | (((with_reducible refine gS ?_); apply Es_xs); rfl; rfl; refine LStep_allocN (T := Try.tab) rfl rfl rfl rfl rfl rfl; rfl) | (((with_reducible refine gS ?_); apply Es_xn); rfl; rfl; (refine LStep_storeN (T := Try.tab) rfl rfl rfl rfl rfl rfl rfl ?_ rfl; (refine Nat.le_of_ble_eq_true ?_; rfl)); rfl) | (refine Es_split rfl ?_ (fun _ => ?_) (fun _ => ?_); ((fail_if_success (refine und_t ?_; assumption)); (fail_if_success (refine und_f ?_; assumption)); exact trivial)) | (with_reducible refine Es_nil ?_) | (with_reducible refine then_n ?_) | (with_reducible refine then_r ?_) | (with_reducible refine block_n ?_) | (with_reducible refine block_r ?_) | ((with_reducible refine gR ?_); first | refine ret1 rfl ?_ | refine ret2 rfl rfl ?_ | refine ret0 ?_ | refine end1 rfl ?_ | refine end0 ?_))
    all_goals simp only [cmps] at *
    all_goals first
      | (refine ⟨k + 1, ?_, by omega, by (repeat' (first | exact trivial | exact rfl | (refine ⟨Or.inl rfl, ?_⟩) | (refine ⟨Or.inr rfl, ?_⟩) | (refine ⟨Or.inr trivial, ?_⟩) | (refine ⟨rfl, ?_⟩) | (refine ⟨?_, ?_⟩))), by (repeat' (first | exact trivial | exact rfl | (refine ⟨Or.inl rfl, ?_⟩) | (refine ⟨Or.inr rfl, ?_⟩) | (refine ⟨Or.inr trivial, ?_⟩) | (refine ⟨rfl, ?_⟩) | (refine ⟨?_, ?_⟩))), by (repeat' (first | exact trivial | exact rfl | (refine ⟨Or.inl rfl, ?_⟩) | (refine ⟨Or.inr rfl, ?_⟩) | (refine ⟨Or.inr trivial, ?_⟩) | (refine ⟨rfl, ?_⟩) | (refine ⟨?_, ?_⟩))), by (repeat' (first | exact trivial | exact rfl | (refine ⟨Or.inl rfl, ?_⟩) | (refine ⟨Or.inr rfl, ?_⟩) | (refine ⟨Or.inr trivial, ?_⟩) | (refine ⟨rfl, ?_⟩) | (refine ⟨?_, ?_⟩)))⟩; exact ⟨by omega, f1 (by unfold wide; rw [decide_eq_false_iff_not]; omega)⟩)
      | (refine ref_fin ?_ ⟨rfl, rfl, rfl, rfl, trivial⟩
         rw [refS, if_neg (by simp [hf]), if_pos (f2 (by unfold wide; rw [decide_eq_true_eq]; omega))])
  have : k = x.length := by omega
  subst this
  rw [List.take_length] at hg
  clear hk hlt
  have hin : ∀ e ∈ x, e.in40 := by
    intro e he
    rw [List.any_eq_false] at hg
    have := hg e he
    unfold wide at this
    rw [decide_eq_true_eq] at this
    unfold Ent.in40
    omega
  have cc := changes_ac x hx hin
  repeat' (first | ((with_reducible refine gA ?_); (first | refine AW_seq ?_ | refine AW_region ?_ | (refine AW_condN rfl ?_ ?_; assumption) | refine AW_block ?_ | refine AW_exit ?_)) | ((with_reducible refine gS ?_); refine Es_s (T := Try.tab) rfl rfl rfl rfl ?_) | (((with_reducible refine gS ?_); apply Es_xg); rfl; rfl; (first | refine LStep_callHN [] [(8, 58), (9, 5800)] cc rfl rfl trivial rfl trivial rfl rfl | refine LStep_range (T := Try.tab) rfl rfl rfl rfl rfl rfl rfl); rfl) | (with_reducible refine Es_nil ?_) | (with_reducible refine then_n ?_) | (with_reducible refine then_e ?_) | ((with_reducible refine block_e ?_ ?_); rfl))
  have hkS := emap_nodup (cv := iV) sV_inj (sumL_keys x).1
  have hkC := emap_nodup (cv := iV) k2V_inj (chgL_keys x).1
  have hin2 : ∀ p ∈ chgL x, (∃ a, aget p.1 s.A = some a) ∧ -4503599627370496 ≤ p.2 ∧ p.2 ≤ 4503599627370496 := by
    intro p hp
    obtain ⟨e, he, hek⟩ := ((chgL_keys x).2 p.1).1 (List.mem_map.2 ⟨p, hp, rfl⟩)
    have h1 := aget_of_mem (chgL_keys x).1 hp
    have h2 := chgL_in x hin p.1
    rw [h1, Option.getD_some] at h2
    refine ⟨?_, by omega, by omega⟩
    rw [List.any_eq_false] at hf
    have := hf e he
    unfold miss at this
    rw [hek] at this
    cases hq : aget p.1 s.A with
    | none => rw [hq] at this; simp at this
    | some a => exact ⟨a, rfl⟩
  generalize hC : chgL x = C at *
  generalize hS : sumL x = S at *
  -- every currency sums to nothing
  refine AW_forE (S := List (ByteArray × Int) × List (ByteArray × Int) × Option Value) (fun s => (s.2.1 ++ s.1).Perm S ∧ s.2.1.any off0 = false) (fun _ => []) (fun t => [(5800, some (.map 9 2 (emap sV iV S) (some (62, (emap sV iV t.1).map (·.1), t.2.2))))]) (fun s => s.1.length) (S, [], none) ⟨List.Perm.refl _, rfl⟩ (by (repeat' (first | exact trivial | exact rfl | (refine ⟨Or.inl rfl, ?_⟩) | (refine ⟨Or.inr rfl, ?_⟩) | (refine ⟨Or.inr trivial, ?_⟩) | (refine ⟨rfl, ?_⟩) | (refine ⟨?_, ?_⟩)))) (by (repeat' (first | exact trivial | exact rfl | (refine ⟨Or.inl rfl, ?_⟩) | (refine ⟨Or.inr rfl, ?_⟩) | (refine ⟨Or.inr trivial, ?_⟩) | (refine ⟨rfl, ?_⟩) | (refine ⟨?_, ?_⟩)))) ?_
  intro ⟨mt, acc, cur⟩ ⟨hp, ha⟩
  dsimp only at hp ha ⊢
  have hn3 : ((emap sV iV mt).map (·.1)).Nodup := by
    have h1 : (emap sV iV (acc ++ mt)).Perm (emap sV iV S) := hp.map _
    have h2 := (h1.map (·.1)).nodup_iff.2 hkS
    rw [etodo_join, List.nodup_append] at h2
    exact h2.2.1
  repeat' (first | ((with_reducible refine gS ?_); refine Es_next 5800 rfl rfl rfl rfl rfl rfl hkS hn3 (fun h0 => ?_) (fun pre k post h0 => ?_)) | ((with_reducible refine gA ?_); (first | refine AW_seq ?_ | refine AW_region ?_ | refine AW_condT rfl ?_ | refine AW_condF rfl ?_ | refine AW_block ?_ | refine AW_skip ?_ | refine AW_exit ?_)) | ((with_reducible refine gS ?_); refine Es_s (T := Try.tab) rfl rfl rfl rfl ?_) | (refine Es_skip rfl ?_ rfl ?_; (first | rfl | (refine w_tf ?_; assumption) | (refine w_ft ?_; assumption))) | (with_reducible refine Es_nil ?_) | (with_reducible refine then_n ?_) | (with_reducible refine then_e ?_) | ((with_reducible refine block_e ?_ ?_); rfl))
  rotate_left
  · obtain ⟨a, p, b, rfl, rfl, rfl, rfl⟩ := etodo_split h0
    have hpm : p ∈ S := hp.mem_iff.1 (by simp)
    have hmem : (sV p.1, iV p.2) ∈ emap sV iV S := List.mem_map.2 ⟨p, hpm, rfl⟩
    repeat' (first | ((with_reducible refine gA ?_); (first | refine AW_seq ?_ | refine AW_region ?_ | (refine AW_cond rfl (fun hc => ?_) (fun hc => ?_) <;> try (exfalso; simp only [cmpL] at hc; omega)) | refine AW_ret ?_ | refine AW_skip ?_)) | ((with_reducible refine gS ?_); refine Es_s (T := Try.tab) rfl rfl rfl rfl ?_) | (((with_reducible refine gS ?_); apply Es_q); rfl; rfl; refine LStep_entry (kav := .d (.sc (.string p.1))) 5800 hmem rfl rfl rfl rfl hkS (fun _ _ _ => .d _ _ (.sc _ rfl))) | (with_reducible refine Es_nil ?_) | (with_reducible refine then_n ?_) | (with_reducible refine then_r ?_) | (with_reducible refine block_n ?_) | (with_reducible refine block_r ?_) | ((with_reducible refine gR ?_); first | refine ret1 rfl ?_ | refine ret2 rfl rfl ?_ | refine ret0 ?_ | refine end1 rfl ?_ | refine end0 ?_))
    all_goals simp only [cmps] at *
    all_goals first
      | (refine ref_fin ?_ ⟨rfl, rfl, rfl, rfl, trivial⟩
         rw [refS, if_neg (by simp [hf]), if_neg (by simp [hg]), if_pos (by rw [hS, List.any_eq_true]; exact ⟨p, hpm, by unfold off0; rw [decide_eq_true_eq]; omega⟩)])
      | (refine ⟨(a ++ b, acc ++ [p], some (sV p.1)), ⟨perm_mid hp, any_snoc ha (by unfold off0; rw [decide_eq_false_iff_not]; omega)⟩, by simp, by (repeat' (first | exact trivial | exact rfl | (refine ⟨Or.inl rfl, ?_⟩) | (refine ⟨Or.inr rfl, ?_⟩) | (refine ⟨Or.inr trivial, ?_⟩) | (refine ⟨rfl, ?_⟩) | (refine ⟨?_, ?_⟩))), by (repeat' (first | exact trivial | exact rfl | (refine ⟨Or.inl rfl, ?_⟩) | (refine ⟨Or.inr rfl, ?_⟩) | (refine ⟨Or.inr trivial, ?_⟩) | (refine ⟨rfl, ?_⟩) | (refine ⟨?_, ?_⟩))), ?_, by (repeat' (first | exact trivial | exact rfl | (refine ⟨Or.inl rfl, ?_⟩) | (refine ⟨Or.inr rfl, ?_⟩) | (refine ⟨Or.inr trivial, ?_⟩) | (refine ⟨rfl, ?_⟩) | (refine ⟨?_, ?_⟩)))⟩
         dsimp only; rw [etodo_join]; (repeat' (first | exact trivial | exact rfl | (refine ⟨Or.inl rfl, ?_⟩) | (refine ⟨Or.inr rfl, ?_⟩) | (refine ⟨Or.inr trivial, ?_⟩) | (refine ⟨rfl, ?_⟩) | (refine ⟨?_, ?_⟩))))
  have hm0 := etodo_nil h0
  subst hm0
  rw [List.append_nil] at hp
  have hS0 := any_perm hp ha
  clear hn3 h0 hp ha
  repeat' (first | ((with_reducible refine gA ?_); refine AW_block ?_) | (((with_reducible refine gS ?_); apply Es_xg); rfl; rfl; refine LStep_range (T := Try.tab) rfl rfl rfl rfl rfl rfl rfl; rfl) | (with_reducible refine Es_nil ?_) | (with_reducible refine then_n ?_))
  -- no account is over
  refine AW_forE (S := List (K2 × Int) × List (K2 × Int) × Option Value) (fun t => (t.2.1 ++ t.1).Perm C ∧ t.2.1.any (over s.A) = false) (fun _ => []) (fun t => [(58, some (.map 70 2 (emap k2V iV C) (some (70, (emap k2V iV t.1).map (·.1), t.2.2))))]) (fun s => s.1.length) (C, [], none) ⟨List.Perm.refl _, rfl⟩ (by (repeat' (first | exact trivial | exact rfl | (refine ⟨Or.inl rfl, ?_⟩) | (refine ⟨Or.inr rfl, ?_⟩) | (refine ⟨Or.inr trivial, ?_⟩) | (refine ⟨rfl, ?_⟩) | (refine ⟨?_, ?_⟩)))) (by (repeat' (first | exact trivial | exact rfl | (refine ⟨Or.inl rfl, ?_⟩) | (refine ⟨Or.inr rfl, ?_⟩) | (refine ⟨Or.inr trivial, ?_⟩) | (refine ⟨rfl, ?_⟩) | (refine ⟨?_, ?_⟩)))) ?_
  intro ⟨mt, acc, cur⟩ ⟨hp, ha⟩
  dsimp only at hp ha ⊢
  have hn3 : ((emap k2V iV mt).map (·.1)).Nodup := by
    have h1 : (emap k2V iV (acc ++ mt)).Perm (emap k2V iV C) := hp.map _
    have h2 := (h1.map (·.1)).nodup_iff.2 hkC
    rw [etodo_join, List.nodup_append] at h2
    exact h2.2.1
  repeat' (first | ((with_reducible refine gS ?_); refine Es_next 58 rfl rfl rfl rfl rfl rfl hkC hn3 (fun h0 => ?_) (fun pre k post h0 => ?_)) | ((with_reducible refine gA ?_); (first | refine AW_seq ?_ | refine AW_region ?_ | refine AW_condT rfl ?_ | refine AW_condF rfl ?_ | refine AW_block ?_ | refine AW_skip ?_ | refine AW_exit ?_)) | ((with_reducible refine gS ?_); refine Es_s (T := Try.tab) rfl rfl rfl rfl ?_) | (refine Es_skip rfl ?_ rfl ?_; (first | rfl | (refine w_tf ?_; assumption) | (refine w_ft ?_; assumption))) | (with_reducible refine Es_nil ?_) | (with_reducible refine then_n ?_) | (with_reducible refine then_e ?_) | ((with_reducible refine block_e ?_ ?_); rfl))
  rotate_left
  · obtain ⟨a, p, b, rfl, rfl, rfl, rfl⟩ := etodo_split h0
    have hpm : p ∈ C := hp.mem_iff.1 (by simp)
    have hmem : (k2V p.1, iV p.2) ∈ emap k2V iV C := List.mem_map.2 ⟨p, hpm, rfl⟩
    obtain ⟨⟨ac, hac⟩, _⟩ := hin2 p hpm
    have hm := mfind_some (cv := aV) k2V_keq hac
    have hov : over s.A p = decide (1099511627776 < wrp .i64 (ac.bal + p.2)) := by unfold over balA; rw [hac]; rfl
    repeat' (first | ((with_reducible refine gA ?_); (first | refine AW_seq ?_ | refine AW_region ?_ | refine AW_regionD Try.mixed ?_ | (refine AW_cond rfl (fun hc => ?_) (fun hc => ?_) <;> try (exfalso; simp only [cmpL] at hc; omega)) | refine AW_ret ?_ | refine AW_skip ?_)) | (first | ((with_reducible refine gS ?_); refine Es_s (T := Try.tab) rfl rfl rfl rfl ?_) | ((with_reducible refine gD ?_); refine Ed_s (T := Try.tab) rfl rfl rfl rfl ?_)) | ((first | ((with_reducible refine gS ?_); apply Es_q) | ((with_reducible refine gD ?_); apply Ed_q)); rfl; rfl; (first | refine LStep_entry (kav := .agg [.d (.sc (.string p.1.1)), .d (.sc (.string p.1.2))]) 58 hmem rfl rfl rfl rfl hkC (k2_rep p.1) | refine LStep_lookup (T := Try.tab) rfl rfl rfl keyK2 rfl rfl rfl rfl (k2_keys _) hm)) | ((first | ((with_reducible refine gS ?_); apply Es_q) | ((with_reducible refine gD ?_); apply Ed_q)); rfl; rfl; refine LStep_wrap (T := Try.tab) rfl rfl) | (refine Es_skip rfl ?_ rfl ?_; (first | rfl | (refine w_tf ?_; assumption) | (refine w_ft ?_; assumption))) | (((with_reducible refine gS ?_); apply Es_xs); rfl; rfl; refine LStep_allocN (T := Try.tab) rfl rfl rfl rfl rfl rfl; rfl) | (((with_reducible refine gS ?_); apply Es_xn); rfl; rfl; (refine LStep_storeN (T := Try.tab) rfl rfl rfl rfl rfl rfl rfl ?_ rfl; (refine Nat.le_of_ble_eq_true ?_; rfl)); rfl) | (with_reducible refine Es_nil ?_) | ((with_reducible refine Ed_nil ?_ ?_); kernel_rfl) | (with_reducible refine then_n ?_) | (with_reducible refine then_r ?_) | (with_reducible refine block_n ?_) | (with_reducible refine block_r ?_) | ((with_reducible refine gR ?_); first | refine ret1 rfl ?_ | refine ret2 rfl rfl ?_ | refine ret0 ?_ | refine end1 rfl ?_ | refine end0 ?_))
    all_goals simp only [cmps] at *
    all_goals first
      | (refine ref_fin ?_ ⟨rfl, rfl, rfl, rfl, trivial⟩
         rw [refS, if_neg (by simp [hf]), if_neg (by simp [hg]), if_neg (by rw [hS, hS0]; exact Bool.false_ne_true), if_pos (by rw [hC, List.any_eq_true]; exact ⟨p, hpm, by rw [hov, decide_eq_true_eq]; assumption⟩)])
      | (refine ⟨(a ++ b, acc ++ [p], some (k2V p.1)), ⟨perm_mid hp, any_snoc ha (by rw [hov, decide_eq_false_iff_not]; omega)⟩, by simp, by (repeat' (first | exact trivial | exact rfl | (refine ⟨Or.inl rfl, ?_⟩) | (refine ⟨Or.inr rfl, ?_⟩) | (refine ⟨Or.inr trivial, ?_⟩) | (refine ⟨rfl, ?_⟩) | (refine ⟨?_, ?_⟩))), by (repeat' (first | exact trivial | exact rfl | (refine ⟨Or.inl rfl, ?_⟩) | (refine ⟨Or.inr rfl, ?_⟩) | (refine ⟨Or.inr trivial, ?_⟩) | (refine ⟨rfl, ?_⟩) | (refine ⟨?_, ?_⟩))), ?_, by (repeat' (first | exact trivial | exact rfl | (refine ⟨Or.inl rfl, ?_⟩) | (refine ⟨Or.inr rfl, ?_⟩) | (refine ⟨Or.inr trivial, ?_⟩) | (refine ⟨rfl, ?_⟩) | (refine ⟨?_, ?_⟩)))⟩
         dsimp only; rw [etodo_join]; (repeat' (first | exact trivial | exact rfl | (refine ⟨Or.inl rfl, ?_⟩) | (refine ⟨Or.inr rfl, ?_⟩) | (refine ⟨Or.inr trivial, ?_⟩) | (refine ⟨rfl, ?_⟩) | (refine ⟨?_, ?_⟩))))
  have hm0 := etodo_nil h0
  subst hm0
  rw [List.append_nil] at hp
  have hC0 := any_perm hp ha
  clear hn3 h0 hp ha
  repeat' (first | ((with_reducible refine gA ?_); refine AW_block ?_) | (((with_reducible refine gS ?_); apply Es_xg); rfl; rfl; refine LStep_range (T := Try.tab) rfl rfl rfl rfl rfl rfl rfl; rfl) | (with_reducible refine Es_nil ?_) | (with_reducible refine then_n ?_))
  -- none lackA
  refine AW_forE (S := List (K2 × Int) × List (K2 × Int) × Option Value) (fun t => (t.2.1 ++ t.1).Perm C ∧ t.2.1.any (lackA s.A) = false) (fun _ => []) (fun t => [(58, some (.map 70 2 (emap k2V iV C) (some (87, (emap k2V iV t.1).map (·.1), t.2.2))))]) (fun s => s.1.length) (C, [], none) ⟨List.Perm.refl _, rfl⟩ (by (repeat' (first | exact trivial | exact rfl | (refine ⟨Or.inl rfl, ?_⟩) | (refine ⟨Or.inr rfl, ?_⟩) | (refine ⟨Or.inr trivial, ?_⟩) | (refine ⟨rfl, ?_⟩) | (refine ⟨?_, ?_⟩)))) (by (repeat' (first | exact trivial | exact rfl | (refine ⟨Or.inl rfl, ?_⟩) | (refine ⟨Or.inr rfl, ?_⟩) | (refine ⟨Or.inr trivial, ?_⟩) | (refine ⟨rfl, ?_⟩) | (refine ⟨?_, ?_⟩)))) ?_
  intro ⟨mt, acc, cur⟩ ⟨hp, ha⟩
  dsimp only at hp ha ⊢
  have hn3 : ((emap k2V iV mt).map (·.1)).Nodup := by
    have h1 : (emap k2V iV (acc ++ mt)).Perm (emap k2V iV C) := hp.map _
    have h2 := (h1.map (·.1)).nodup_iff.2 hkC
    rw [etodo_join, List.nodup_append] at h2
    exact h2.2.1
  repeat' (first | ((with_reducible refine gS ?_); refine Es_next 58 rfl rfl rfl rfl rfl rfl hkC hn3 (fun h0 => ?_) (fun pre k post h0 => ?_)) | ((with_reducible refine gA ?_); (first | refine AW_seq ?_ | refine AW_region ?_ | refine AW_condT rfl ?_ | refine AW_condF rfl ?_ | refine AW_block ?_ | refine AW_ret ?_ | refine AW_skip ?_ | refine AW_exit ?_)) | ((with_reducible refine gS ?_); refine Es_s (T := Try.tab) rfl rfl rfl rfl ?_) | (refine Es_skip rfl ?_ rfl ?_; (first | rfl | (refine w_tf ?_; assumption) | (refine w_ft ?_; assumption))) | (with_reducible refine Es_nil ?_) | (with_reducible refine then_n ?_) | (with_reducible refine then_e ?_) | ((with_reducible refine block_e ?_ ?_); rfl) | ((with_reducible refine gR ?_); first | refine ret1 rfl ?_ | refine ret2 rfl rfl ?_ | refine ret0 ?_ | refine end1 rfl ?_ | refine end0 ?_))
  rotate_left
  · obtain ⟨a, p, b, rfl, rfl, rfl, rfl⟩ := etodo_split h0
    have hpm : p ∈ C := hp.mem_iff.1 (by simp)
    have hmem : (k2V p.1, iV p.2) ∈ emap k2V iV C := List.mem_map.2 ⟨p, hpm, rfl⟩
    obtain ⟨⟨ac, hac⟩, hb1, hb2⟩ := hin2 p hpm
    have hm := mfind_some (cv := aV) k2V_keq hac
    have hng : wrp .i64 (0 - p.2) = 0 - p.2 := wrp_fit (by omega)
    have hov : lackA s.A p = decide (p.2 < 0 ∧ ac.fr < -p.2) := by unfold lackA frA; rw [hac]; rfl
    have cf := free_ac ac
    repeat' (first | ((with_reducible refine gA ?_); (first | refine AW_seq ?_ | refine AW_region ?_ | refine AW_regionD Try.mixed ?_ | refine AW_condF rfl ?_ | (refine AW_cond rfl (fun hc => ?_) (fun hc => ?_) <;> try (exfalso; simp only [cmpL] at hc; omega)) | refine AW_ret ?_ | refine AW_skip ?_)) | (first | ((with_reducible refine gS ?_); refine Es_s (T := Try.tab) rfl rfl rfl rfl ?_) | ((with_reducible refine gD ?_); refine Ed_s (T := Try.tab) rfl rfl rfl rfl ?_)) | ((first | ((with_reducible refine gS ?_); apply Es_q) | ((with_reducible refine gD ?_); apply Ed_q)); rfl; (first | rfl | (refine w_tt ?_; assumption)); (first | refine LStep_entry (kav := .agg [.d (.sc (.string p.1.1)), .d (.sc (.string p.1.2))]) 58 hmem rfl rfl rfl rfl hkC (k2_rep p.1) | refine LStep_lookup (T := Try.tab) rfl rfl rfl keyK2 rfl rfl rfl rfl (k2_keys _) hm | refine LStep_call (cf) rfl rfl rfl rfl)) | ((first | ((with_reducible refine gS ?_); apply Es_q) | ((with_reducible refine gD ?_); apply Ed_q)); rfl; (first | rfl | (refine w_tt ?_; assumption)); (first | refine LStep_simp (T := Try.tab) rfl rfl | (refine LStep_pickT rfl rfl ?_ rfl rfl; assumption) | (refine LStep_pickF rfl rfl ?_ rfl rfl; assumption))) | ((first | refine Es_skip rfl ?_ rfl ?_ | refine Ed_skip rfl ?_ rfl ?_); (first | rfl | (refine w_tf ?_; assumption) | (refine w_ft ?_; assumption))) | ((first | ((with_reducible refine gS ?_); apply Es_xs) | ((with_reducible refine gD ?_); apply Ed_xs)); rfl; rfl; refine LStep_allocN (T := Try.tab) rfl rfl rfl rfl rfl rfl; rfl) | ((first | ((with_reducible refine gS ?_); apply Es_xn) | ((with_reducible refine gD ?_); apply Ed_xn)); rfl; rfl; (refine LStep_storeN (T := Try.tab) rfl rfl rfl rfl rfl rfl rfl ?_ rfl; (refine Nat.le_of_ble_eq_true ?_; rfl)); rfl) | (refine Ed_split rfl ?_ (fun _ => ?_) (fun _ => ?_); ((fail_if_success (refine und_t ?_; assumption)); (fail_if_success (refine und_f ?_; assumption)); exact trivial)) | (with_reducible refine Es_nil ?_) | ((with_reducible refine Ed_nil ?_ ?_); kernel_rfl) | (with_reducible refine then_n ?_) | (with_reducible refine then_r ?_) | (with_reducible refine block_n ?_) | (with_reducible refine block_r ?_) | ((with_reducible refine gR ?_); first | refine ret1 rfl ?_ | refine ret2 rfl rfl ?_ | refine ret0 ?_ | refine end1 rfl ?_ | refine end0 ?_))
    all_goals simp only [cmps] at *
    all_goals first
      | (refine ref_fin ?_ ⟨rfl, rfl, rfl, rfl, trivial⟩
         rw [refS, if_neg (by simp [hf]), if_neg (by simp [hg]), if_neg (by rw [hS, hS0]; exact Bool.false_ne_true), if_neg (by rw [hC, hC0]; exact Bool.false_ne_true), if_pos (by rw [hC, List.any_eq_true]; exact ⟨p, hpm, by rw [hov, decide_eq_true_eq]; omega⟩)])
      | (refine ⟨(a ++ b, acc ++ [p], some (k2V p.1)), ⟨perm_mid hp, any_snoc ha (by rw [hov, decide_eq_false_iff_not]; omega)⟩, by simp, by (repeat' (first | exact trivial | exact rfl | (refine ⟨Or.inl rfl, ?_⟩) | (refine ⟨Or.inr rfl, ?_⟩) | (refine ⟨Or.inr trivial, ?_⟩) | (refine ⟨rfl, ?_⟩) | (refine ⟨?_, ?_⟩))), by (repeat' (first | exact trivial | exact rfl | (refine ⟨Or.inl rfl, ?_⟩) | (refine ⟨Or.inr rfl, ?_⟩) | (refine ⟨Or.inr trivial, ?_⟩) | (refine ⟨rfl, ?_⟩) | (refine ⟨?_, ?_⟩))), ?_, by (repeat' (first | exact trivial | exact rfl | (refine ⟨Or.inl rfl, ?_⟩) | (refine ⟨Or.inr rfl, ?_⟩) | (refine ⟨Or.inr trivial, ?_⟩) | (refine ⟨rfl, ?_⟩) | (refine ⟨?_, ?_⟩)))⟩
         dsimp only; rw [etodo_join]; (repeat' (first | exact trivial | exact rfl | (refine ⟨Or.inl rfl, ?_⟩) | (refine ⟨Or.inr rfl, ?_⟩) | (refine ⟨Or.inr trivial, ?_⟩) | (refine ⟨rfl, ?_⟩) | (refine ⟨?_, ?_⟩))))
  have hm0 := etodo_nil h0
  subst hm0
  rw [List.append_nil] at hp
  have hC1 := any_perm hp ha
  clear hn3 h0 hp ha
  repeat' (first | ((with_reducible refine gA ?_); (first | refine AW_seq ?_ | refine AW_region ?_ | refine AW_regionD Try.mixed ?_ | refine AW_condT rfl ?_ | refine AW_condF rfl ?_ | (refine AW_condY rfl ?_ ?_; assumption) | (refine AW_condN rfl ?_ ?_; assumption) | (refine AW_cond rfl (fun hc => ?_) (fun hc => ?_) <;> try (exfalso; simp only [cmpL] at hc; omega)) | refine AW_block ?_ | refine AW_ret ?_ | refine AW_skip ?_ | refine AW_exit ?_)) | (first | ((with_reducible refine gS ?_); refine Es_s (T := Try.tab) rfl rfl rfl rfl ?_) | ((with_reducible refine gD ?_); refine Ed_s (T := Try.tab) rfl rfl rfl rfl ?_)) | ((first | ((with_reducible refine gS ?_); apply Es_q) | ((with_reducible refine gD ?_); apply Ed_q)); rfl; (first | rfl | (refine w_tt ?_; assumption) | (refine w_ff ?_; assumption)); (first | refine LStep_simp (T := Try.tab) rfl rfl | refine LStep_lenM (T := Try.tab) rfl rfl rfl rfl | (refine LStep_add rfl rfl rfl rfl ?_; (refine IntWalk.i64_in _ ?_; first | omega | (simp only [cmps] at *; omega))) | (refine LStep_sub rfl rfl rfl rfl ?_; (refine IntWalk.i64_in _ ?_; first | omega | (simp only [cmps] at *; omega))) | (refine LStep_mul rfl rfl rfl rfl ?_; (refine IntWalk.i64_in _ ?_; first | omega | (simp only [cmps] at *; omega))) | (refine LStep_conv (T := Try.tab) rfl rfl rfl rfl rfl ?_; (refine IntWalk.i64_in _ ?_; first | omega | (simp only [cmps] at *; omega))) | refine LStep_wrap (T := Try.tab) rfl rfl | (refine LStep_pickT rfl rfl ?_ rfl rfl; assumption) | (refine LStep_pickF rfl rfl ?_ rfl rfl; assumption) | (refine LStep_indexM (T := Try.tab) (c := ?_) rfl rfl rfl rfl rfl rfl ?_; rotate_left; assumption) | (refine LStep_index (T := Try.tab) (c := ?_) rfl rfl rfl rfl rfl rfl ?_ ?_; rotate_left; omega; (first | assumption | rfl)) | (refine LStep_indexA (T := Try.tab) (c := ?_) rfl rfl rfl rfl rfl rfl ?_ ?_; rotate_left; omega; (first | assumption | rfl)) | (refine LStep_byteM (T := Try.tab) (c := ?_) rfl rfl rfl rfl rfl ?_; rotate_left; assumption) | (refine LStep_byte (T := Try.tab) (c := ?_) rfl rfl rfl rfl rfl ?_ ?_; rotate_left; omega; (first | assumption | rfl)) | (refine LStep_partM (T := Try.tab) rfl rfl rfl rfl rfl rfl rfl ?_ ?_ ?_; omega; (first | omega | (simp only [List.length_map]; omega)); (first | omega | (simp only [List.length_map]; omega))) | (refine LStep_lit (T := Try.tab) rfl rfl rfl rfl rfl rfl rfl rfl ?_; (refine Nat.le_of_ble_eq_true ?_; rfl)) | (refine LStep_litA (T := Try.tab) rfl rfl rfl rfl rfl rfl rfl ?_; (refine Nat.le_of_ble_eq_true ?_; rfl)) | refine LStep_buildN (T := Try.tab) rfl rfl rfl rfl rfl rfl rfl)) | ((first | refine Es_skip rfl ?_ rfl ?_ | refine Ed_skip rfl ?_ rfl ?_); (first | rfl | (refine w_tf ?_; assumption) | (refine w_ft ?_; assumption))) | ((first | ((with_reducible refine gS ?_); apply Es_xs) | ((with_reducible refine gD ?_); apply Ed_xs)); rfl; (first | rfl | (refine w_tt ?_; assumption) | (refine w_ff ?_; assumption)); (first | refine LStep_boxN rfl rfl rfl rfl rfl rfl | refine LStep_box rfl rfl rfl rfl rfl | refine LStep_allocN (T := Try.tab) rfl rfl rfl rfl rfl rfl | refine LStep_makeMap (kt := 0) (et := 0) rfl rfl rfl rfl | refine LStep_makeMapN (T := Try.tab) rfl rfl rfl rfl rfl rfl); rfl) | ((first | ((with_reducible refine gS ?_); apply Es_xn) | ((with_reducible refine gD ?_); apply Ed_xn)); rfl; (first | rfl | (refine w_tt ?_; assumption) | (refine w_ff ?_; assumption)); (first | (refine LStep_storeN (T := Try.tab) rfl rfl rfl rfl rfl rfl rfl ?_ rfl; (refine Nat.le_of_ble_eq_true ?_; rfl)) | (refine LStep_store (T := Try.tab) rfl rfl rfl rfl rfl rfl rfl ?_; (refine Nat.le_of_ble_eq_true ?_; rfl))); rfl) | ((first | refine Es_split rfl ?_ (fun _ => ?_) (fun _ => ?_) | refine Ed_split rfl ?_ (fun _ => ?_) (fun _ => ?_)); ((fail_if_success (refine und_t ?_; assumption)); (fail_if_success (refine und_f ?_; assumption)); exact trivial)) | (with_reducible refine Es_nil ?_) | ((with_reducible refine Ed_nil ?_ ?_); kernel_rfl) | (with_reducible refine then_n ?_) | (with_reducible refine then_r ?_) | (with_reducible refine then_e ?_) | (with_reducible refine block_n ?_) | (with_reducible refine block_r ?_) | ((with_reducible refine block_e ?_ ?_); rfl) | ((with_reducible refine block_x ?_ ?_); rfl) | ((with_reducible refine gR ?_); first | refine ret1 rfl ?_ | refine ret2 rfl rfl ?_ | refine ret0 ?_ | refine end1 rfl ?_ | refine end0 ?_) | ((with_reducible refine gC ?_); first | refine retC1 rfl ?_ | refine endC1 rfl ?_) | ((with_reducible refine gRG ?_); first | refine retGa rfl ?_ | refine retGb rfl ?_ | refine retGc rfl ?_ | refine retG1 rfl rfl ?_ | refine endG1 rfl rfl ?_))
  refine ref_fin ?_ ⟨rfl, rfl, rfl, rfl, trivial⟩
  rw [refS, if_neg (by simp [hf]), if_neg (by simp [hg]), if_neg (by rw [hS, hS0]; exact Bool.false_ne_true), if_neg (by rw [hC, hC0]; exact Bool.false_ne_true), if_neg (by rw [hC, hC1]; exact Bool.false_ne_true)]
end Go.Proofs.Ytofdnkgieigncaa
