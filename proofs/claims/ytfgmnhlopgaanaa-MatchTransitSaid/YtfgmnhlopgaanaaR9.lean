/- The law: got and in the mail are all. -/
import Derived.Test.YtfgmnhlopgaanaaR8
namespace Go.Proofs.Ytfgmnhlopgaanaa
open Go.SL Go.ChangeShapes Go.WideShapes Go.ChangeAt Go.RowKit

section
variable {P : Program} {O : Org} {o : Oper} {env : Env} {h : Hp}
theorem lstep_rem {t yt : Nat} {x y : Operand} {k : IntKind} {m n q : Int} (ho : o.op = .binOp .rem t x y yt) (hx : evalA env x = .d (.sc (.int k m))) (hy : evalA env y = .d (.sc (.int k n))) (hn : n ≠ 0) (hq : m.tmod n = q) (hd : dstOk o.dst O.nt = true) :
    LStep P O o env h [] [] (.d (.sc (.int k q))) [] := by
  subst hq
  refine .quiet hd (fun env' h' he _ a w G r => ?_)
  have h1 := evalA_rep r.env x
  have h2 := evalA_rep r.env y
  rw [he x (by simp [ho, Op.operands]), hx] at h1
  rw [he y (by simp [ho, Op.operands]), hy] at h2
  exact ⟨.int k (m.tmod n), by simp [execOp, ho, h1.sc_inv, h2.sc_inv, eqGuard, binOp, Op.intDiv, hn], .d _ _ (.sc _ rfl)⟩
end
/-! ### which are drawn -/
def bE (n : Int) : List D := [.sc (.int .u8 n)]
def ixs (n : Nat) (bs : List Int) : List Nat := if n = 0 then [] else bs.map fun b => (b.tmod n).toNat
def picks (s : List Lt) (l : List Nat) : List Lt := l.filterMap (s[·]?)
def dedup (l : List Nat) : List Nat := l.foldl (fun acc i => if i ∈ acc then acc else acc ++ [i]) []
theorem dedup_snoc (l : List Nat) (i : Nat) : dedup (l ++ [i]) = if i ∈ dedup l then dedup l else dedup l ++ [i] := by unfold dedup; rw [List.foldl_append]; rfl
theorem dedup_mem (l : List Nat) (i : Nat) : i ∈ dedup l ↔ i ∈ l := by
  refine list_snoc (p := fun l => i ∈ dedup l ↔ i ∈ l) Iff.rfl (fun l j ih => ?_) l
  rw [dedup_snoc]
  by_cases h : j ∈ dedup l
  · rw [if_pos h, List.mem_append, List.mem_singleton]
    constructor
    · intro h1; exact .inl (ih.1 h1)
    · rintro (h1 | rfl)
      · exact ih.2 h1
      · exact h
  · rw [if_neg h, List.mem_append, List.mem_append, ih]
theorem dedup_nodup (l : List Nat) : (dedup l).Nodup := by
  refine list_snoc (p := fun l => (dedup l).Nodup) List.nodup_nil (fun l j ih => ?_) l
  rw [dedup_snoc]
  split
  · exact ih
  · rename_i h
    rw [List.nodup_append]
    exact ⟨ih, by simp, fun a ha b hb e => by simp at hb; subst hb; exact h (e ▸ ha)⟩
def dE (l : List Nat) : List (Value × AV) := l.map fun i => (.int .i64 (i : Nat), tru)
theorem keq_nat (i x : Nat) : keq (.int .i64 (i : Nat)) (.int .i64 (x : Nat)) = decide (i = x) := by
  show ((i : Int) == (x : Int)) = _
  by_cases e : i = x
  · subst e; simp
  · rw [decide_eq_false e]
    simp only [beq_eq_false_iff_ne, ne_eq]
    omega
theorem dE_mat (i : Nat) : ∀ (l : List Nat) (j : Nat), (mat (.int .i64 (i : Nat)) (dE l) j).map (·.2) = if i ∈ l then some tru else none
  | [], _ => rfl
  | x :: r, j => by
    have ih := dE_mat i r (j + 1)
    unfold dE at *
    rw [List.map_cons, mat, keq_nat]
    by_cases e : i = x
    · subst e
      simp
    · rw [decide_eq_false e, cond_false, ih]
      by_cases hm : i ∈ r
      · rw [if_pos hm, if_pos (List.mem_cons_of_mem _ hm)]
      · rw [if_neg hm, if_neg (by simp [e, hm])]
theorem dE_find (i : Nat) (l : List Nat) : mfind (.int .i64 (i : Nat)) (dE l) = if i ∈ l then some tru else none := dE_mat i l 0
theorem dE_keys (l : List Nat) : ∀ p ∈ dE l, keyB (.int .i64) p.1 = true := by
  intro p hp
  obtain ⟨x, _, rfl⟩ := List.mem_map.1 hp
  rfl
theorem dE_at (i : Nat) : ∀ (l : List Nat) (j : Nat) (r : Nat × AV), mat (.int .i64 (i : Nat)) (dE l) j = some r → j ≤ r.1 ∧ (dE l)[r.1 - j]? = some (.int .i64 (i : Nat), tru)
  | [], _, _, h => by cases h
  | x :: l, j, r, h => by
    unfold dE at h
    rw [List.map_cons, mat, keq_nat] at h
    by_cases e : i = x
    · subst e
      rw [decide_eq_true rfl] at h
      cases h
      refine ⟨Nat.le_refl _, ?_⟩
      unfold dE
      rw [List.map_cons, Nat.sub_self, List.getElem?_cons_zero]
    · rw [decide_eq_false e] at h
      obtain ⟨h1, h2⟩ := dE_at i l (j + 1) r h
      refine ⟨by omega, ?_⟩
      obtain ⟨m, hm⟩ : ∃ m, r.1 - j = m + 1 := ⟨r.1 - (j + 1), by omega⟩
      rw [hm]
      unfold dE
      rw [List.map_cons, List.getElem?_cons_succ, show m = r.1 - (j + 1) by omega]
      exact h2
theorem dE_put (l : List Nat) (i : Nat) : mput (.int .i64 (i : Nat)) tru (dE l) = dE (if i ∈ l then l else l ++ [i]) := by
  by_cases h : i ∈ l
  · rw [if_pos h]
    have hf := dE_find i l
    rw [if_pos h] at hf
    unfold mfind at hf
    unfold mput
    cases hm : mat (.int .i64 (i : Nat)) (dE l) 0 with
    | none => rw [hm] at hf; cases hf
    | some r =>
      obtain ⟨_, h2⟩ := dE_at i l 0 r hm
      obtain ⟨i, c⟩ := r
      exact set_same h2
  · rw [if_neg h, mput_new (by rw [dE_find, if_neg h])]
    unfold dE
    rw [List.map_append]
    rfl
theorem picks_mem {s : List Lt} {l : List Nat} {x : Lt} : x ∈ picks s l ↔ ∃ i ∈ l, s[i]? = some x := by unfold picks; rw [List.mem_filterMap]
/-- under letters told apart: the i-th is told among those picked just if i was drawn -/
theorem picks_any {s : List Lt} (h : TD s) {l : List Nat} {i : Nat} {x : Lt} (hx : s[i]? = some x) : anyT x (picks s l) = true ↔ i ∈ l := by
  unfold anyT
  rw [List.any_eq_true]
  constructor
  · rintro ⟨y, hy, e⟩
    obtain ⟨j, hj, hjy⟩ := picks_mem.1 hy
    obtain ⟨hi1, hi2⟩ := List.getElem?_eq_some_iff.1 hx
    obtain ⟨hj1, hj2⟩ := List.getElem?_eq_some_iff.1 hjy
    rcases Nat.lt_trichotomy i j with hlt | heq | hgt
    · have := List.pairwise_iff_getElem.1 h i j hi1 hj1 hlt
      rw [hi2, hj2, e] at this; cases this
    · subst heq; exact hj
    · have := List.pairwise_iff_getElem.1 h j i hj1 hi1 hgt
      rw [hi2, hj2, tB_symm e] at this; cases this
  · intro hi
    exact ⟨x, picks_mem.2 ⟨i, hi, hx⟩, tB_refl x⟩
theorem mail_count {s : List Lt} (h : TD s) (l : List Nat) : ∀ k, k ≤ s.length → (inMail (s.take k) (picks s l)).length + ((List.range k).filter (fun i => decide (i ∈ l))).length = k
  | 0, _ => rfl
  | k + 1, hk => by
    have ih := mail_count h l k (by omega)
    obtain ⟨x, hx, _⟩ := drop_at (show k < s.length by omega)
    have hp := picks_any h (l := l) hx
    rw [inMail_at hx, List.range_succ, List.filter_append, List.length_append, List.length_append]
    by_cases hm : k ∈ l
    · rw [hp.2 hm, if_neg (by simp)]
      simp [hm]
      omega
    · have : anyT x (picks s l) = false := by
        cases hq : anyT x (picks s l)
        · rfl
        · exact absurd (hp.1 hq) hm
      rw [this, if_pos rfl]
      simp [hm]
      omega
theorem mail_sum {s : List Lt} (h : TD s) {l : List Nat} (hl : ∀ i ∈ l, i < s.length) : (inMail s (picks s l)).length + (dE (dedup l)).length = s.length := by
  have h1 := mail_count h l s.length (Nat.le_refl _)
  rw [List.take_length] at h1
  have hp : (dedup l).Perm ((List.range s.length).filter (fun i => decide (i ∈ l))) :=
    (List.perm_ext_iff_of_nodup (dedup_nodup l) (List.Pairwise.filter _ List.nodup_range)).2 (fun i => by
      rw [dedup_mem, List.mem_filter, List.mem_range, decide_eq_true_eq]
      exact ⟨fun h => ⟨hl i h, h⟩, fun h => h.2⟩)
  unfold dE
  rw [List.length_map, hp.length_eq]
  exact h1
theorem inMail_get {s g : List Lt} {k : Nat} {x : Lt} (hx : s[k]? = some x) (h : anyT x g = false) : (inMail s g)[(inMail (s.take k) g).length]? = some x := by
  obtain ⟨y, hy, hd⟩ := drop_at (List.getElem?_eq_some_iff.1 hx).1
  rw [hx] at hy
  cases hy
  have e : inMail s g = inMail (s.take k) g ++ x :: inMail (s.drop (k + 1)) g := by
    conv => lhs; rw [← List.take_append_drop k s, hd]
    unfold inMail
    rw [List.filter_append, List.filter_cons]
    simp [h]
  rw [e, List.getElem?_append_right (Nat.le_refl _), Nat.sub_self]
  rfl
set_option maxRecDepth 20000 in
set_option maxHeartbeats 8000000 in
theorem matchTransitDup_ac (s : List Lt) (bs : List Int) (h1 : s.length ≤ 20) (h2 : bs.length ≤ 20) (os : ∀ x ∈ s, x.Ok) (hno : ¬ TD s) : AC Try.prog 7 [.d (.sl 14 (s.map Lt.enc)), .d (.sl 1 (bs.map bE))] [] [] (fun r _ => r = .d (.sc (.bool true))) := by
  have cm := (mail_ac s [] h1 (by simp) os (fun x hx => by simp at hx)).coe (args' := [.d (.sl 14 (s.map Lt.enc)), .d (.sc (.slice none 0 0))]) ⟨.refl _, .nil 14, trivial⟩
  have hr : mailR s [] = .tup [.d (.sl 14 []), .d (.sc (.int .i64 5))] := by unfold mailR; rw [if_neg hno]
  rw [hr] at cm
  clear os hr
  refine AC_enter Try.func7 rfl Try.ntmps7 (rv := [.tmp 4]) rfl rfl (by simp) (fun w X G => ?_)
  repeat' (first | ((with_reducible refine gA ?_); (first | refine AW_seq ?_ | refine AW_region ?_ | refine AW_condT rfl ?_ | (refine AW_cond rfl (fun hc => ?_) (fun hc => ?_) <;> try (exfalso; simp only [cmpL] at hc; omega)) | refine AW_block ?_ | refine AW_ret ?_ | refine AW_skip ?_)) | ((with_reducible refine gS ?_); refine Es_s (T := Try.tab) rfl rfl rfl rfl ?_) | (((with_reducible refine gS ?_); apply Es_q); rfl; (first | rfl | (refine w_ff ?_; assumption)); refine LStep_call (awake_ac) rfl rfl rfl rfl) | (((with_reducible refine gS ?_); apply Es_q); rfl; (first | rfl | (refine w_ff ?_; assumption)); (first | refine LStep_simp (T := Try.tab) rfl rfl | refine LStep_lenM (T := Try.tab) rfl rfl rfl rfl | (refine LStep_pickT rfl rfl ?_ rfl rfl; assumption) | (refine LStep_pickF rfl rfl ?_ rfl rfl; assumption))) | (refine Es_skip rfl ?_ rfl ?_; (first | rfl | (refine w_tf ?_; assumption) | (refine w_ft ?_; assumption))) | (refine Es_split rfl ?_ (fun _ => ?_) (fun _ => ?_); ((fail_if_success (refine und_t ?_; assumption)); (fail_if_success (refine und_f ?_; assumption)); exact trivial)) | (with_reducible refine Es_nil ?_) | (with_reducible refine then_n ?_) | (with_reducible refine then_r ?_) | ((with_reducible refine gR ?_); first | refine ret1 rfl ?_ | refine ret2 rfl rfl ?_ | refine ret0 ?_ | refine end1 rfl ?_ | refine end0 ?_))
  all_goals simp only [cmps] at *
  all_goals first
    | rfl
    | (exfalso; omega)
    | skip
  refine AW_forE (S := Nat) (fun k => k ≤ s.length ∧ TD (s.take k)) (fun k => [(33, .d (.sc (.int .i64 (k : Nat))))]) (fun _ => []) (fun k => s.length - k) 0 ⟨by omega, List.Pairwise.nil⟩ (by (repeat' (first | exact trivial | exact rfl | (refine ⟨Or.inl rfl, ?_⟩) | (refine ⟨Or.inr rfl, ?_⟩) | (refine ⟨rfl, ?_⟩) | (refine ⟨?_, ?_⟩)))) (by (repeat' (first | exact trivial | exact rfl | (refine ⟨Or.inl rfl, ?_⟩) | (refine ⟨Or.inr rfl, ?_⟩) | (refine ⟨rfl, ?_⟩) | (refine ⟨?_, ?_⟩)))) ?_
  intro k ⟨hk, htd⟩
  by_cases hlt : k < s.length
  · obtain ⟨x, hx, _⟩ := drop_at hlt
    have hsn := TD_snoc hx
    repeat' (first | ((with_reducible refine gA ?_); (first | refine AW_seq ?_ | refine AW_region ?_ | (refine AW_cond rfl (fun hc => ?_) (fun hc => ?_) <;> try (exfalso; simp only [cmpL] at hc; omega)) | refine AW_block ?_ | refine AW_skip ?_)) | ((with_reducible refine gS ?_); refine Es_s (T := Try.tab) rfl rfl rfl rfl ?_) | (with_reducible refine Es_nil ?_) | (with_reducible refine then_n ?_))
    refine AW_forE (S := Nat) (fun j => j ≤ k ∧ anyT x (s.take j) = false) (fun j => [(37, .d (.sc (.int .i64 (j : Nat))))]) (fun _ => []) (fun j => k - j) 0 ⟨by omega, rfl⟩ (by (repeat' (first | exact trivial | exact rfl | (refine ⟨Or.inl rfl, ?_⟩) | (refine ⟨Or.inr rfl, ?_⟩) | (refine ⟨rfl, ?_⟩) | (refine ⟨?_, ?_⟩)))) (by (repeat' (first | exact trivial | exact rfl | (refine ⟨Or.inl rfl, ?_⟩) | (refine ⟨Or.inr rfl, ?_⟩) | (refine ⟨rfl, ?_⟩) | (refine ⟨?_, ?_⟩)))) ?_
    intro j ⟨hj, hany⟩
    by_cases hjt : j < k
    · obtain ⟨y, hy, _⟩ := drop_at (show j < s.length by omega)
      have cr := rtold_ac x y
      have ha : anyT x (s.take (j + 1)) = (anyT x (s.take j) || x.tB y) := any_at hy
      rw [hany, Bool.false_or] at ha
      cases hq : x.tB y with
      | true =>
        rw [hq] at cr
        repeat' (first | ((with_reducible refine gA ?_); (first | refine AW_seq ?_ | refine AW_region ?_ | refine AW_regionD Try.mixed ?_ | refine AW_condT rfl ?_ | (refine AW_cond rfl (fun hc => ?_) (fun hc => ?_) <;> try (exfalso; simp only [cmpL] at hc; omega)) | refine AW_block ?_ | refine AW_ret ?_ | refine AW_skip ?_)) | ((first | ((with_reducible refine gS ?_); apply Es_q) | ((with_reducible refine gD ?_); apply Ed_q)); rfl; rfl; refine LStep_eqlT rfl rfl rfl rfl rfl) | (first | ((with_reducible refine gS ?_); refine Es_s (T := Try.tab) rfl rfl rfl rfl ?_) | ((with_reducible refine gD ?_); refine Ed_s (T := Try.tab) rfl rfl rfl rfl ?_)) | ((first | ((with_reducible refine gS ?_); apply Es_q) | ((with_reducible refine gD ?_); apply Ed_q)); rfl; rfl; (first | refine LStep_call (cr) rfl rfl rfl rfl | refine LStep_call (cm) rfl rfl rfl rfl)) | (((with_reducible refine gD ?_); apply Ed_q); rfl; rfl; (refine LStep_indexM (T := Try.tab) (c := ?_) rfl rfl rfl rfl rfl rfl ?_; rotate_left; assumption)) | (with_reducible refine Es_nil ?_) | ((with_reducible refine Ed_nil ?_ ?_); kernel_rfl) | (with_reducible refine then_n ?_) | (with_reducible refine then_r ?_) | (with_reducible refine block_r ?_) | ((with_reducible refine gR ?_); first | refine ret1 rfl ?_ | refine ret2 rfl rfl ?_ | refine ret0 ?_ | refine end1 rfl ?_ | refine end0 ?_))
        all_goals rfl
      | false =>
        rw [hq] at cr ha
        repeat' (first | ((with_reducible refine gA ?_); (first | refine AW_seq ?_ | refine AW_region ?_ | refine AW_regionD Try.mixed ?_ | refine AW_condF rfl ?_ | (refine AW_cond rfl (fun hc => ?_) (fun hc => ?_) <;> try (exfalso; simp only [cmpL] at hc; omega)) | refine AW_block ?_ | refine AW_skip ?_)) | (first | ((with_reducible refine gS ?_); refine Es_s (T := Try.tab) rfl rfl rfl rfl ?_) | ((with_reducible refine gD ?_); refine Ed_s (T := Try.tab) rfl rfl rfl rfl ?_)) | ((first | ((with_reducible refine gS ?_); apply Es_q) | ((with_reducible refine gD ?_); apply Ed_q)); rfl; rfl; refine LStep_call (cr) rfl rfl rfl rfl) | ((first | ((with_reducible refine gS ?_); apply Es_q) | ((with_reducible refine gD ?_); apply Ed_q)); rfl; rfl; (first | (refine LStep_add rfl rfl rfl rfl ?_; (refine IntWalk.i64_in _ ?_; first | omega | (simp only [cmps] at *; omega))) | (refine LStep_indexM (T := Try.tab) (c := ?_) rfl rfl rfl rfl rfl rfl ?_; rotate_left; assumption))) | (with_reducible refine Es_nil ?_) | ((with_reducible refine Ed_nil ?_ ?_); kernel_rfl) | (with_reducible refine then_n ?_) | (with_reducible refine block_n ?_))
        (refine ⟨j + 1, ?_, by omega, by (repeat' (first | exact trivial | exact rfl | (refine ⟨Or.inl rfl, ?_⟩) | (refine ⟨Or.inr rfl, ?_⟩) | (refine ⟨rfl, ?_⟩) | (refine ⟨?_, ?_⟩))), by (repeat' (first | exact trivial | exact rfl | (refine ⟨Or.inl rfl, ?_⟩) | (refine ⟨Or.inr rfl, ?_⟩) | (refine ⟨rfl, ?_⟩) | (refine ⟨?_, ?_⟩))), by (repeat' (first | exact trivial | exact rfl | (refine ⟨Or.inl rfl, ?_⟩) | (refine ⟨Or.inr rfl, ?_⟩) | (refine ⟨rfl, ?_⟩) | (refine ⟨?_, ?_⟩))), by (repeat' (first | exact trivial | exact rfl | (refine ⟨Or.inl rfl, ?_⟩) | (refine ⟨Or.inr rfl, ?_⟩) | (refine ⟨rfl, ?_⟩) | (refine ⟨?_, ?_⟩)))⟩; exact ⟨by omega, ha⟩)
    · have : j = k := by omega
      subst this
      repeat' (first | ((with_reducible refine gA ?_); (first | refine AW_seq ?_ | refine AW_region ?_ | (refine AW_cond rfl (fun hc => ?_) (fun hc => ?_) <;> try (exfalso; simp only [cmpL] at hc; omega)) | refine AW_exit ?_)) | ((with_reducible refine gS ?_); refine Es_s (T := Try.tab) rfl rfl rfl rfl ?_) | (((with_reducible refine gS ?_); apply Es_q); rfl; rfl; (refine LStep_add rfl rfl rfl rfl ?_; (refine IntWalk.i64_in _ ?_; first | omega | (simp only [cmps] at *; omega)))) | (with_reducible refine Es_nil ?_) | (with_reducible refine then_n ?_) | (with_reducible refine then_e ?_) | (with_reducible refine block_n ?_) | ((with_reducible refine block_e ?_ ?_); rfl))
      (refine ⟨j + 1, ?_, by omega, by (repeat' (first | exact trivial | exact rfl | (refine ⟨Or.inl rfl, ?_⟩) | (refine ⟨Or.inr rfl, ?_⟩) | (refine ⟨rfl, ?_⟩) | (refine ⟨?_, ?_⟩))), by (repeat' (first | exact trivial | exact rfl | (refine ⟨Or.inl rfl, ?_⟩) | (refine ⟨Or.inr rfl, ?_⟩) | (refine ⟨rfl, ?_⟩) | (refine ⟨?_, ?_⟩))), by (repeat' (first | exact trivial | exact rfl | (refine ⟨Or.inl rfl, ?_⟩) | (refine ⟨Or.inr rfl, ?_⟩) | (refine ⟨rfl, ?_⟩) | (refine ⟨?_, ?_⟩))), by (repeat' (first | exact trivial | exact rfl | (refine ⟨Or.inl rfl, ?_⟩) | (refine ⟨Or.inr rfl, ?_⟩) | (refine ⟨rfl, ?_⟩) | (refine ⟨?_, ?_⟩)))⟩; exact ⟨by omega, hsn.2 ⟨htd, hany⟩⟩)
  · have : k = s.length := by omega
    subst this
    rw [List.take_length] at htd
    exact absurd htd hno
set_option maxRecDepth 20000 in
set_option maxHeartbeats 8000000 in
theorem matchTransitOk_ac (s : List Lt) (bs : List Int) (h1 : s.length ≤ 20) (h2 : bs.length ≤ 20) (os : ∀ x ∈ s, x.Ok) (hb : ∀ b ∈ bs, 0 ≤ b ∧ b ≤ 255) (htd : TD s) : AC Try.prog 7 [.d (.sl 14 (s.map Lt.enc)), .d (.sl 1 (bs.map bE))] [] [] (fun r _ => r = .d (.sc (.bool true))) := by
  refine AC_enter Try.func7 rfl Try.ntmps7 (rv := [.tmp 4]) rfl rfl (by simp) (fun w X G => ?_)
  repeat' (first | ((with_reducible refine gA ?_); (first | refine AW_seq ?_ | refine AW_region ?_ | refine AW_condT rfl ?_ | (refine AW_cond rfl (fun hc => ?_) (fun hc => ?_) <;> try (exfalso; simp only [cmpL] at hc; omega)) | refine AW_block ?_ | refine AW_ret ?_ | refine AW_skip ?_)) | ((with_reducible refine gS ?_); refine Es_s (T := Try.tab) rfl rfl rfl rfl ?_) | (((with_reducible refine gS ?_); apply Es_q); rfl; (first | rfl | (refine w_ff ?_; assumption)); refine LStep_call (awake_ac) rfl rfl rfl rfl) | (((with_reducible refine gS ?_); apply Es_q); rfl; (first | rfl | (refine w_ff ?_; assumption)); (first | refine LStep_simp (T := Try.tab) rfl rfl | refine LStep_lenM (T := Try.tab) rfl rfl rfl rfl | (refine LStep_pickT rfl rfl ?_ rfl rfl; assumption) | (refine LStep_pickF rfl rfl ?_ rfl rfl; assumption))) | (refine Es_skip rfl ?_ rfl ?_; (first | rfl | (refine w_tf ?_; assumption) | (refine w_ft ?_; assumption))) | (refine Es_split rfl ?_ (fun _ => ?_) (fun _ => ?_); ((fail_if_success (refine und_t ?_; assumption)); (fail_if_success (refine und_f ?_; assumption)); exact trivial)) | (with_reducible refine Es_nil ?_) | (with_reducible refine then_n ?_) | (with_reducible refine then_r ?_) | ((with_reducible refine gR ?_); first | refine ret1 rfl ?_ | refine ret2 rfl rfl ?_ | refine ret0 ?_ | refine end1 rfl ?_ | refine end0 ?_))
  all_goals simp only [cmps] at *
  all_goals first
    | rfl
    | (exfalso; omega)
    | skip
  refine AW_forE (S := Nat) (fun k => k ≤ s.length) (fun k => [(33, .d (.sc (.int .i64 (k : Nat))))]) (fun _ => []) (fun k => s.length - k) 0 (by omega) (by (repeat' (first | exact trivial | exact rfl | (refine ⟨Or.inl rfl, ?_⟩) | (refine ⟨Or.inr rfl, ?_⟩) | (refine ⟨rfl, ?_⟩) | (refine ⟨?_, ?_⟩)))) (by (repeat' (first | exact trivial | exact rfl | (refine ⟨Or.inl rfl, ?_⟩) | (refine ⟨Or.inr rfl, ?_⟩) | (refine ⟨rfl, ?_⟩) | (refine ⟨?_, ?_⟩)))) ?_
  intro k hk
  by_cases hlt : k < s.length
  · obtain ⟨x, hx, _⟩ := drop_at hlt
    have hany := ((TD_snoc hx).1 (TD_take htd (k + 1))).2
    repeat' (first | ((with_reducible refine gA ?_); (first | refine AW_seq ?_ | refine AW_region ?_ | (refine AW_cond rfl (fun hc => ?_) (fun hc => ?_) <;> try (exfalso; simp only [cmpL] at hc; omega)) | refine AW_block ?_ | refine AW_skip ?_)) | ((with_reducible refine gS ?_); refine Es_s (T := Try.tab) rfl rfl rfl rfl ?_) | (with_reducible refine Es_nil ?_) | (with_reducible refine then_n ?_))
    refine AW_forE (S := Nat) (fun j => j ≤ k) (fun j => [(37, .d (.sc (.int .i64 (j : Nat))))]) (fun _ => []) (fun j => k - j) 0 (by omega) (by (repeat' (first | exact trivial | exact rfl | (refine ⟨Or.inl rfl, ?_⟩) | (refine ⟨Or.inr rfl, ?_⟩) | (refine ⟨rfl, ?_⟩) | (refine ⟨?_, ?_⟩)))) (by (repeat' (first | exact trivial | exact rfl | (refine ⟨Or.inl rfl, ?_⟩) | (refine ⟨Or.inr rfl, ?_⟩) | (refine ⟨rfl, ?_⟩) | (refine ⟨?_, ?_⟩)))) ?_
    intro j hj
    by_cases hjt : j < k
    · obtain ⟨y, hy, _⟩ := drop_at (show j < s.length by omega)
      have cr := rtold_ac x y
      have hq : x.tB y = false := anyT_false.1 hany y (List.mem_of_getElem? (i := j) (by rw [List.getElem?_take_of_lt hjt]; exact hy))
      rw [hq] at cr
      clear hany htd hb os
      repeat' (first | ((with_reducible refine gA ?_); (first | refine AW_seq ?_ | refine AW_region ?_ | refine AW_regionD Try.mixed ?_ | refine AW_condF rfl ?_ | (refine AW_cond rfl (fun hc => ?_) (fun hc => ?_) <;> try (exfalso; simp only [cmpL] at hc; omega)) | refine AW_block ?_ | refine AW_skip ?_)) | (first | ((with_reducible refine gS ?_); refine Es_s (T := Try.tab) rfl rfl rfl rfl ?_) | ((with_reducible refine gD ?_); refine Ed_s (T := Try.tab) rfl rfl rfl rfl ?_)) | ((first | ((with_reducible refine gS ?_); apply Es_q) | ((with_reducible refine gD ?_); apply Ed_q)); rfl; rfl; refine LStep_call (cr) rfl rfl rfl rfl) | ((first | ((with_reducible refine gS ?_); apply Es_q) | ((with_reducible refine gD ?_); apply Ed_q)); rfl; rfl; (first | (refine LStep_add rfl rfl rfl rfl ?_; (refine IntWalk.i64_in _ ?_; first | omega | (simp only [cmps] at *; omega))) | (refine LStep_indexM (T := Try.tab) (c := ?_) rfl rfl rfl rfl rfl rfl ?_; rotate_left; assumption))) | (with_reducible refine Es_nil ?_) | ((with_reducible refine Ed_nil ?_ ?_); kernel_rfl) | (with_reducible refine then_n ?_) | (with_reducible refine block_n ?_))
      (refine ⟨j + 1, ?_, by omega, by (repeat' (first | exact trivial | exact rfl | (refine ⟨Or.inl rfl, ?_⟩) | (refine ⟨Or.inr rfl, ?_⟩) | (refine ⟨rfl, ?_⟩) | (refine ⟨?_, ?_⟩))), by (repeat' (first | exact trivial | exact rfl | (refine ⟨Or.inl rfl, ?_⟩) | (refine ⟨Or.inr rfl, ?_⟩) | (refine ⟨rfl, ?_⟩) | (refine ⟨?_, ?_⟩))), by (repeat' (first | exact trivial | exact rfl | (refine ⟨Or.inl rfl, ?_⟩) | (refine ⟨Or.inr rfl, ?_⟩) | (refine ⟨rfl, ?_⟩) | (refine ⟨?_, ?_⟩))), by (repeat' (first | exact trivial | exact rfl | (refine ⟨Or.inl rfl, ?_⟩) | (refine ⟨Or.inr rfl, ?_⟩) | (refine ⟨rfl, ?_⟩) | (refine ⟨?_, ?_⟩)))⟩; omega)
    · have : j = k := by omega
      subst this
      clear hany htd hb os
      repeat' (first | ((with_reducible refine gA ?_); (first | refine AW_seq ?_ | refine AW_region ?_ | (refine AW_cond rfl (fun hc => ?_) (fun hc => ?_) <;> try (exfalso; simp only [cmpL] at hc; omega)) | refine AW_exit ?_)) | ((with_reducible refine gS ?_); refine Es_s (T := Try.tab) rfl rfl rfl rfl ?_) | (((with_reducible refine gS ?_); apply Es_q); rfl; rfl; (refine LStep_add rfl rfl rfl rfl ?_; (refine IntWalk.i64_in _ ?_; first | omega | (simp only [cmps] at *; omega)))) | (with_reducible refine Es_nil ?_) | (with_reducible refine then_n ?_) | (with_reducible refine then_e ?_) | (with_reducible refine block_n ?_) | ((with_reducible refine block_e ?_ ?_); rfl))
      (refine ⟨j + 1, ?_, by omega, by (repeat' (first | exact trivial | exact rfl | (refine ⟨Or.inl rfl, ?_⟩) | (refine ⟨Or.inr rfl, ?_⟩) | (refine ⟨rfl, ?_⟩) | (refine ⟨?_, ?_⟩))), by (repeat' (first | exact trivial | exact rfl | (refine ⟨Or.inl rfl, ?_⟩) | (refine ⟨Or.inr rfl, ?_⟩) | (refine ⟨rfl, ?_⟩) | (refine ⟨?_, ?_⟩))), by (repeat' (first | exact trivial | exact rfl | (refine ⟨Or.inl rfl, ?_⟩) | (refine ⟨Or.inr rfl, ?_⟩) | (refine ⟨rfl, ?_⟩) | (refine ⟨?_, ?_⟩))), by (repeat' (first | exact trivial | exact rfl | (refine ⟨Or.inl rfl, ?_⟩) | (refine ⟨Or.inr rfl, ?_⟩) | (refine ⟨rfl, ?_⟩) | (refine ⟨?_, ?_⟩)))⟩; omega)
  · have : k = s.length := by omega
    subst this
    repeat' (first | ((with_reducible refine gA ?_); (first | refine AW_seq ?_ | refine AW_region ?_ | (refine AW_cond rfl (fun hc => ?_) (fun hc => ?_) <;> try (exfalso; simp only [cmpL] at hc; omega)) | refine AW_block ?_ | refine AW_exit ?_)) | ((with_reducible refine gS ?_); refine Es_s (T := Try.tab) rfl rfl rfl rfl ?_) | (((with_reducible refine gS ?_); apply Es_xs); rfl; rfl; (first | (refine LStep_litOwn (T := Try.tab) (len := 0) rfl rfl rfl rfl rfl rfl rfl rfl rfl rfl ?_ ?_; (refine Nat.le_of_ble_eq_true ?_; rfl); (unfold maxLen; omega)) | refine LStep_makeMap (kt := 3) (et := 4) rfl rfl rfl rfl); rfl) | (((with_reducible refine gS ?_); apply Es_q); rfl; rfl; refine LStep_lenM (T := Try.tab) rfl rfl rfl rfl) | (with_reducible refine Es_nil ?_) | (with_reducible refine then_n ?_) | (with_reducible refine then_e ?_) | ((with_reducible refine block_e ?_ ?_); rfl))
    refine AW_forE (S := Nat) (fun k => k ≤ bs.length) (fun k => [(62, .d (.sc (.int .i64 (k : Nat)))), (9, .own 58 ((picks s (ixs s.length (bs.take k))).map Lt.enc).length)]) (fun k => [(58, some (.arr 49 14 ((picks s (ixs s.length (bs.take k))).map Lt.enc))), (59, some (.map 3 4 (dE (dedup (ixs s.length (bs.take k)))) none))]) (fun k => bs.length - k) 0 (by omega) (by unfold ixs; split <;> (repeat' (first | exact trivial | exact rfl | (refine ⟨Or.inl rfl, ?_⟩) | (refine ⟨Or.inr rfl, ?_⟩) | (refine ⟨rfl, ?_⟩) | (refine ⟨?_, ?_⟩)))) (by unfold ixs; split <;> (repeat' (first | exact trivial | exact rfl | (refine ⟨Or.inl rfl, ?_⟩) | (refine ⟨Or.inr rfl, ?_⟩) | (refine ⟨rfl, ?_⟩) | (refine ⟨?_, ?_⟩)))) ?_
    intro k hk
    by_cases hlt : k < bs.length
    · obtain ⟨b, hbk, _⟩ := drop_at hlt
      obtain ⟨b0, b1⟩ := hb b (List.mem_of_getElem? hbk)
      by_cases hn : s.length = 0
      · have ht : ixs s.length (bs.take (k + 1)) = ixs s.length (bs.take k) := by unfold ixs; rw [if_pos hn, if_pos hn]
        clear htd hb os
        generalize ixs s.length (bs.take k) = I at ht
        repeat' (first | ((with_reducible refine gA ?_); (first | refine AW_seq ?_ | refine AW_region ?_ | (refine AW_cond rfl (fun hc => ?_) (fun hc => ?_) <;> try (exfalso; simp only [cmpL] at hc; omega)) | refine AW_block ?_ | refine AW_skip ?_)) | ((with_reducible refine gS ?_); refine Es_s (T := Try.tab) rfl rfl rfl rfl ?_) | (((with_reducible refine gS ?_); apply Es_q); rfl; rfl; (first | refine LStep_lenM (T := Try.tab) rfl rfl rfl rfl | (refine LStep_add rfl rfl rfl rfl ?_; (refine IntWalk.i64_in _ ?_; first | omega | (simp only [cmps] at *; omega))) | (refine LStep_indexM (T := Try.tab) (c := ?_) rfl rfl rfl rfl rfl rfl ?_; rotate_left; assumption))) | (with_reducible refine Es_nil ?_) | (with_reducible refine then_n ?_) | (with_reducible refine block_n ?_))
        all_goals simp only [cmps] at *
        all_goals first
          | (exfalso; omega)
          | skip
        refine ⟨k + 1, by omega, by omega, ?_, by (repeat' (first | exact trivial | exact rfl | (refine ⟨Or.inl rfl, ?_⟩) | (refine ⟨Or.inr rfl, ?_⟩) | (refine ⟨rfl, ?_⟩) | (refine ⟨?_, ?_⟩))), ?_, by (repeat' (first | exact trivial | exact rfl | (refine ⟨Or.inl rfl, ?_⟩) | (refine ⟨Or.inr rfl, ?_⟩) | (refine ⟨rfl, ?_⟩) | (refine ⟨?_, ?_⟩)))⟩
        all_goals (rw [ht]; (repeat' (first | exact trivial | exact rfl | (refine ⟨Or.inl rfl, ?_⟩) | (refine ⟨Or.inr rfl, ?_⟩) | (refine ⟨rfl, ?_⟩) | (refine ⟨?_, ?_⟩))))
      · obtain ⟨m, hm⟩ : ∃ m : Nat, b.tmod (s.length : Nat) = (m : Nat) := ⟨(b.tmod (s.length : Nat)).toNat, by have := Int.tmod_nonneg (s.length : Int) b0; omega⟩
        have hml : m < s.length := by have := Int.tmod_lt_of_pos b (show (0 : Int) < (s.length : Nat) by omega); omega
        obtain ⟨x, hx, _⟩ := drop_at hml
        have ht : ixs s.length (bs.take (k + 1)) = ixs s.length (bs.take k) ++ [m] := by
          unfold ixs
          rw [if_neg hn, if_neg hn, take_at hbk, List.map_append, List.map_cons, List.map_nil, hm, Int.toNat_natCast]
        have hp : picks s (ixs s.length (bs.take (k + 1))) = picks s (ixs s.length (bs.take k)) ++ [x] := by
          rw [ht]
          unfold picks
          rw [List.filterMap_append]
          simp [hx]
        have hdd : mput (.int .i64 (m : Nat)) tru (dE (dedup (ixs s.length (bs.take k)))) = dE (dedup (ixs s.length (bs.take (k + 1)))) := by rw [ht, dedup_snoc, dE_put]
        have hln : (picks s (ixs s.length (bs.take k))).length ≤ 20 := by
          have h3 : (picks s (ixs s.length (bs.take k))).length ≤ (ixs s.length (bs.take k)).length := List.length_filterMap_le _ _
          have h4 : (ixs s.length (bs.take k)).length = (bs.take k).length := by unfold ixs; rw [if_neg hn, List.length_map]
          rw [List.length_take] at h4
          omega
        have hk2 := dE_keys (dedup (ixs s.length (bs.take k)))
        clear htd hb os ht
        generalize picks s (ixs s.length (bs.take k)) = PP at hp hln
        generalize dE (dedup (ixs s.length (bs.take k))) = EE at hdd hk2
        repeat' (first | ((with_reducible refine gA ?_); (first | refine AW_seq ?_ | refine AW_region ?_ | (refine AW_cond rfl (fun hc => ?_) (fun hc => ?_) <;> try (exfalso; simp only [cmpL] at hc; omega)) | refine AW_block ?_ | refine AW_skip ?_)) | ((with_reducible refine gS ?_); refine Es_s (T := Try.tab) rfl rfl rfl rfl ?_) | (((with_reducible refine gS ?_); apply Es_q); rfl; rfl; (refine lstep_rem (q := (m : Nat)) rfl rfl rfl ?_ ?_ rfl; omega; exact hm)) | (((with_reducible refine gS ?_); apply Es_xs); rfl; rfl; (refine LStep_append (T := Try.tab) rfl rfl rfl rfl rfl rfl rfl rfl rfl rfl ?_ ?_ ?_; rfl; (rw [List.length_map]; simp only [List.length_cons, List.length_nil]; omega); (unfold maxLen; rw [List.length_map]; simp only [List.length_cons, List.length_nil]; omega)); rfl) | (((with_reducible refine gS ?_); apply Es_xn); rfl; rfl; (refine LStep_mapUpdate (T := Try.tab) rfl rfl rfl rfl rfl rfl rfl rfl rfl ?_ rfl; exact hk2); rfl) | (((with_reducible refine gS ?_); apply Es_q); rfl; rfl; (first | refine LStep_lenM (T := Try.tab) rfl rfl rfl rfl | (refine LStep_add rfl rfl rfl rfl ?_; (refine IntWalk.i64_in _ ?_; first | omega | (simp only [cmps] at *; omega))) | (refine LStep_conv (T := Try.tab) rfl rfl rfl rfl rfl ?_; (refine IntWalk.i64_in _ ?_; first | omega | (simp only [cmps] at *; omega))) | (refine LStep_indexM (T := Try.tab) (c := ?_) rfl rfl rfl rfl rfl rfl ?_; rotate_left; assumption) | (refine LStep_lit (T := Try.tab) rfl rfl rfl rfl rfl rfl rfl rfl ?_; (refine Nat.le_of_ble_eq_true ?_; rfl)))) | (with_reducible refine Es_nil ?_) | (with_reducible refine then_n ?_) | (with_reducible refine block_n ?_))
        all_goals simp only [cmps] at *
        all_goals first
          | (exfalso; omega)
          | skip
        refine ⟨k + 1, by omega, by omega, ?_, by (repeat' (first | exact trivial | exact rfl | (refine ⟨Or.inl rfl, ?_⟩) | (refine ⟨Or.inr rfl, ?_⟩) | (refine ⟨rfl, ?_⟩) | (refine ⟨?_, ?_⟩))), ?_, by (repeat' (first | exact trivial | exact rfl | (refine ⟨Or.inl rfl, ?_⟩) | (refine ⟨Or.inr rfl, ?_⟩) | (refine ⟨rfl, ?_⟩) | (refine ⟨?_, ?_⟩)))⟩
        · rw [hp, List.map_append]; (repeat' (first | exact trivial | exact rfl | (refine ⟨Or.inl rfl, ?_⟩) | (refine ⟨Or.inr rfl, ?_⟩) | (refine ⟨rfl, ?_⟩) | (refine ⟨?_, ?_⟩)))
        · rw [hp, List.map_append, ← hdd]; (repeat' (first | exact trivial | exact rfl | (refine ⟨Or.inl rfl, ?_⟩) | (refine ⟨Or.inr rfl, ?_⟩) | (refine ⟨rfl, ?_⟩) | (refine ⟨?_, ?_⟩)))
    · have : k = bs.length := by omega
      subst this
      rw [List.take_length]
      have hI : ∀ i ∈ ixs s.length bs, i < s.length := by
        intro i hi
        unfold ixs at hi
        split at hi
        · cases hi
        · rename_i hn
          obtain ⟨b, hb2, rfl⟩ := List.mem_map.1 hi
          have := Int.tmod_nonneg (s.length : Int) (hb b hb2).1
          have := Int.tmod_lt_of_pos b (show (0 : Int) < (s.length : Nat) by omega)
          omega
      have hIl : (ixs s.length bs).length ≤ 20 := by unfold ixs; split <;> simp; omega
      generalize ixs s.length bs = I at hI hIl
      have hgl : (picks s I).length ≤ 20 := by
        have h3 : (picks s I).length ≤ I.length := List.length_filterMap_le _ _
        omega
      have hgs : ∀ x ∈ picks s I, x ∈ s := fun x hx => by
        obtain ⟨i, _, hi⟩ := picks_mem.1 hx
        exact List.mem_of_getElem? hi
      have cm := mail_ac s (picks s I) h1 hgl os (fun x hx => os x (hgs x hx))
      have hr : mailR s (picks s I) = .tup [.d (.sl 14 ((inMail s (picks s I)).map Lt.enc)), .d (.sc (.int .i64 0))] := by unfold mailR; rw [if_pos htd, if_pos hgs]
      rw [hr] at cm
      have hsum := mail_sum htd hI
      have hgt := fun k x hx hq => inMail_get (s := s) (g := picks s I) (k := k) (x := x) hx hq
      have hat := fun k x hx => inMail_at (s := s) (g := picks s I) (k := k) (x := x) hx
      have hle := fun k => inMail_len s (picks s I) k
      have hpa := fun i x hx => picks_any htd (l := I) (i := i) (x := x) hx
      have hfi := fun i => dE_find i (dedup I)
      have hke := dE_keys (dedup I)
      have hde := dedup_mem I
      clear hr hgs hI hb htd
      generalize hG : picks s I = G2 at *
      generalize inMail s G2 = M at *
      generalize dE (dedup I) = EE at *
      refine AW_freeze [9] (id := 58) ⟨rfl, trivial⟩ rfl rfl ?_
      repeat' (first | ((with_reducible refine gA ?_); (first | refine AW_seq ?_ | refine AW_region ?_ | (refine AW_cond rfl (fun hc => ?_) (fun hc => ?_) <;> try (exfalso; simp only [cmpL] at hc; omega)) | refine AW_block ?_ | refine AW_skip ?_ | refine AW_exit ?_)) | (((with_reducible refine gS ?_); apply Es_q); rfl; rfl; refine LStep_neqF rfl rfl rfl rfl rfl) | ((with_reducible refine gS ?_); refine Es_s (T := Try.tab) rfl rfl rfl rfl ?_) | (((with_reducible refine gS ?_); apply Es_q); rfl; rfl; (first | refine LStep_call (cm) rfl rfl rfl rfl | refine LStep_lenMap (T := Try.tab) rfl rfl rfl rfl rfl)) | (((with_reducible refine gS ?_); apply Es_q); rfl; rfl; (first | refine LStep_simp (T := Try.tab) rfl rfl | refine LStep_lenM (T := Try.tab) rfl rfl rfl rfl | (refine LStep_add rfl rfl rfl rfl ?_; (refine IntWalk.i64_in _ ?_; first | omega | (simp only [cmps] at *; omega))))) | (with_reducible refine Es_nil ?_) | (with_reducible refine then_n ?_) | (with_reducible refine then_e ?_) | ((with_reducible refine block_e ?_ ?_); rfl))
      all_goals simp only [cmps] at *
      all_goals first
        | (exfalso; omega)
        | skip
      clear cm
      refine AW_forE (S := Nat) (fun k => k ≤ s.length) (fun k => [(107, .d (.sc (.int .i64 (k : Nat)))), (15, .d (.sc (.int .i64 ((inMail (s.take k) G2).length : Nat))))]) (fun _ => []) (fun k => s.length - k) 0 (by omega) (by (repeat' (first | exact trivial | exact rfl | (refine ⟨Or.inl rfl, ?_⟩) | (refine ⟨Or.inr rfl, ?_⟩) | (refine ⟨rfl, ?_⟩) | (refine ⟨?_, ?_⟩)))) (by (repeat' (first | exact trivial | exact rfl | (refine ⟨Or.inl rfl, ?_⟩) | (refine ⟨Or.inr rfl, ?_⟩) | (refine ⟨rfl, ?_⟩) | (refine ⟨?_, ?_⟩)))) ?_
      intro k hk
      by_cases hlt : k < s.length
      · obtain ⟨x, hx, _⟩ := drop_at hlt
        have hox := os x (List.mem_of_getElem? hx)
        have cs := (rsameL_ac x x (by have := hox.docs; omega) (fun d hd => by have := hox.flds d hd; omega) (by have := hox.boxes; omega)).mono (fun _ _ e => e.trans (by rw [(Lt.eqB_iff x x).2 rfl] : _ = AV.d (.sc (.bool true))))
        have hfind := hfi k
        have hdk := hde k
        have ht := hat k x hx
        have hl2 := hle k
        have hpp := hpa k x hx
        have hgg := hgt k x hx
        clear os hfi hat hle hpa hgt hde hox
        generalize inMail (s.take k) G2 = W2 at ht hl2 hgg
        by_cases hm : k ∈ I
        · rw [if_pos (hdk.2 hm)] at hfind
          rw [hpp.2 hm, if_neg (by simp), List.append_nil] at ht
          repeat' (first | ((with_reducible refine gA ?_); (first | refine AW_seq ?_ | refine AW_region ?_ | refine AW_condT rfl ?_ | (refine AW_cond rfl (fun hc => ?_) (fun hc => ?_) <;> try (exfalso; simp only [cmpL] at hc; omega)) | refine AW_block ?_ | refine AW_skip ?_ | refine AW_exit ?_)) | ((with_reducible refine gS ?_); refine Es_s (T := Try.tab) rfl rfl rfl rfl ?_) | (((with_reducible refine gS ?_); apply Es_q); rfl; rfl; (refine LStep_lookup (T := Try.tab) (c := tru) rfl rfl rfl rfl rfl rfl rfl rfl ?_ ?_; exact hke; exact hfind)) | (((with_reducible refine gS ?_); apply Es_q); rfl; rfl; (first | (refine LStep_add rfl rfl rfl rfl ?_; (refine IntWalk.i64_in _ ?_; first | omega | (simp only [cmps] at *; omega))) | (refine LStep_indexM (T := Try.tab) (c := ?_) rfl rfl rfl rfl rfl rfl ?_; rotate_left; assumption))) | (refine Es_skip rfl ?_ rfl ?_; (first | rfl | (refine w_tf ?_; assumption) | (refine w_ft ?_; assumption))) | (((with_reducible refine gS ?_); apply Es_xs); rfl; rfl; refine LStep_allocN (T := Try.tab) rfl rfl rfl rfl rfl rfl; rfl) | (((with_reducible refine gS ?_); apply Es_xn); rfl; rfl; (refine LStep_storeN (T := Try.tab) rfl rfl rfl rfl rfl rfl rfl ?_ rfl; (refine Nat.le_of_ble_eq_true ?_; rfl)); rfl) | (with_reducible refine Es_nil ?_) | (with_reducible refine then_n ?_) | (with_reducible refine then_e ?_) | ((with_reducible refine block_e ?_ ?_); rfl))
          refine ⟨k + 1, by omega, by omega, ?_, by (repeat' (first | exact trivial | exact rfl | (refine ⟨Or.inl rfl, ?_⟩) | (refine ⟨Or.inr rfl, ?_⟩) | (refine ⟨rfl, ?_⟩) | (refine ⟨?_, ?_⟩))), by (repeat' (first | exact trivial | exact rfl | (refine ⟨Or.inl rfl, ?_⟩) | (refine ⟨Or.inr rfl, ?_⟩) | (refine ⟨rfl, ?_⟩) | (refine ⟨?_, ?_⟩))), ?_⟩
          · rw [ht]; (repeat' (first | exact trivial | exact rfl | (refine ⟨Or.inl rfl, ?_⟩) | (refine ⟨Or.inr rfl, ?_⟩) | (refine ⟨rfl, ?_⟩) | (refine ⟨?_, ?_⟩)))
          · (repeat' (first | exact trivial | exact rfl | exact Or.inr trivial | (refine ⟨Or.inl rfl, ?_⟩) | (refine ⟨Or.inr trivial, ?_⟩) | (refine ⟨Or.inr rfl, ?_⟩) | (refine ⟨rfl, ?_⟩) | (refine ⟨?_, ?_⟩)))
        · rw [if_neg (fun h => hm (hdk.1 h))] at hfind
          have hany : anyT x G2 = false := by
            cases hq : anyT x G2
            · rfl
            · exact absurd (hpp.1 hq) hm
          rw [hany, if_pos rfl] at ht
          have hgi := hgg hany
          have hwl : (W2 ++ [x]).length = W2.length + 1 := by simp
          repeat' (first | ((with_reducible refine gA ?_); (first | refine AW_seq ?_ | refine AW_region ?_ | refine AW_regionD Try.mixed ?_ | refine AW_condF rfl ?_ | (refine AW_cond rfl (fun hc => ?_) (fun hc => ?_) <;> try (exfalso; simp only [cmpL] at hc; omega)) | refine AW_block ?_ | refine AW_skip ?_)) | (first | ((with_reducible refine gS ?_); refine Es_s (T := Try.tab) rfl rfl rfl rfl ?_) | ((with_reducible refine gD ?_); refine Ed_s (T := Try.tab) rfl rfl rfl rfl ?_)) | ((first | ((with_reducible refine gS ?_); apply Es_q) | ((with_reducible refine gD ?_); apply Ed_q)); rfl; rfl; (first | refine LStep_call (cs) rfl rfl rfl rfl | (refine LStep_lookup0Z (T := Try.tab) rfl rfl rfl rfl rfl rfl rfl rfl rfl rfl ?_ ?_; exact hke; exact hfind))) | ((first | ((with_reducible refine gS ?_); apply Es_q) | ((with_reducible refine gD ?_); apply Ed_q)); rfl; rfl; (first | (refine LStep_add rfl rfl rfl rfl ?_; (refine IntWalk.i64_in _ ?_; first | omega | (simp only [cmps] at *; omega))) | (refine LStep_indexM (T := Try.tab) (c := ?_) rfl rfl rfl rfl rfl rfl ?_; rotate_left; assumption))) | (refine Es_skip rfl ?_ rfl ?_; (first | rfl | (refine w_tf ?_; assumption) | (refine w_ft ?_; assumption))) | (((with_reducible refine gS ?_); apply Es_xs); rfl; rfl; refine LStep_allocN (T := Try.tab) rfl rfl rfl rfl rfl rfl; rfl) | (((with_reducible refine gS ?_); apply Es_xn); rfl; rfl; (refine LStep_storeN (T := Try.tab) rfl rfl rfl rfl rfl rfl rfl ?_ rfl; (refine Nat.le_of_ble_eq_true ?_; rfl)); rfl) | (with_reducible refine Es_nil ?_) | ((with_reducible refine Ed_nil ?_ ?_); kernel_rfl) | (with_reducible refine then_n ?_) | (with_reducible refine block_n ?_))
          refine ⟨k + 1, by omega, by omega, ?_, by (repeat' (first | exact trivial | exact rfl | (refine ⟨Or.inl rfl, ?_⟩) | (refine ⟨Or.inr rfl, ?_⟩) | (refine ⟨rfl, ?_⟩) | (refine ⟨?_, ?_⟩))), by (repeat' (first | exact trivial | exact rfl | (refine ⟨Or.inl rfl, ?_⟩) | (refine ⟨Or.inr rfl, ?_⟩) | (refine ⟨rfl, ?_⟩) | (refine ⟨?_, ?_⟩))), ?_⟩
          · rw [ht, hwl]; (repeat' (first | exact trivial | exact rfl | (refine ⟨Or.inl rfl, ?_⟩) | (refine ⟨Or.inr rfl, ?_⟩) | (refine ⟨rfl, ?_⟩) | (refine ⟨?_, ?_⟩)))
          · (repeat' (first | exact trivial | exact rfl | exact Or.inr trivial | (refine ⟨Or.inl rfl, ?_⟩) | (refine ⟨Or.inr trivial, ?_⟩) | (refine ⟨Or.inr rfl, ?_⟩) | (refine ⟨rfl, ?_⟩) | (refine ⟨?_, ?_⟩)))
      · have : k = s.length := by omega
        subst this
        repeat' (first | ((with_reducible refine gA ?_); (first | refine AW_seq ?_ | refine AW_region ?_ | (refine AW_cond rfl (fun hc => ?_) (fun hc => ?_) <;> try (exfalso; simp only [cmpL] at hc; omega)) | refine AW_ret ?_ | refine AW_exit ?_)) | ((with_reducible refine gS ?_); refine Es_s (T := Try.tab) rfl rfl rfl rfl ?_) | (with_reducible refine Es_nil ?_) | (with_reducible refine then_n ?_) | (with_reducible refine then_e ?_) | ((with_reducible refine block_e ?_ ?_); rfl) | ((with_reducible refine gR ?_); first | refine ret1 rfl ?_ | refine ret2 rfl rfl ?_ | refine ret0 ?_ | refine end1 rfl ?_ | refine end0 ?_))
        rfl
theorem matchTransit_ac (s : List Lt) (bs : List Int) (hs : s.length ≤ 140737488351232) (hl : bs.length ≤ 140737488351232) (os : ∀ x ∈ s, x.Ok) (hb : ∀ b ∈ bs, 0 ≤ b ∧ b ≤ 255) : AC Try.prog 7 [.d (.sl 14 (s.map Lt.enc)), .d (.sl 1 (bs.map bE))] [] [] (fun r _ => r = .d (.sc (.bool true))) := by
  by_cases h : s.length ≤ 20 ∧ bs.length ≤ 20
  · by_cases htd : TD s
    · exact matchTransitOk_ac s bs h.1 h.2 os hb htd
    · exact matchTransitDup_ac s bs h.1 h.2 os htd
  · clear os hb
    refine AC_enter Try.func7 rfl Try.ntmps7 (rv := [.tmp 4]) rfl rfl (by simp) (fun w X G => ?_)
    repeat' (first | ((with_reducible refine gA ?_); (first | refine AW_seq ?_ | refine AW_region ?_ | refine AW_condT rfl ?_ | (refine AW_cond rfl (fun hc => ?_) (fun hc => ?_) <;> try (exfalso; simp only [cmpL] at hc; omega)) | refine AW_block ?_ | refine AW_ret ?_ | refine AW_skip ?_)) | ((with_reducible refine gS ?_); refine Es_s (T := Try.tab) rfl rfl rfl rfl ?_) | (((with_reducible refine gS ?_); apply Es_q); rfl; (first | rfl | (refine w_ff ?_; assumption)); refine LStep_call (awake_ac) rfl rfl rfl rfl) | (((with_reducible refine gS ?_); apply Es_q); rfl; (first | rfl | (refine w_ff ?_; assumption)); (first | refine LStep_simp (T := Try.tab) rfl rfl | refine LStep_lenM (T := Try.tab) rfl rfl rfl rfl | (refine LStep_pickT rfl rfl ?_ rfl rfl; assumption) | (refine LStep_pickF rfl rfl ?_ rfl rfl; assumption))) | (refine Es_skip rfl ?_ rfl ?_; (first | rfl | (refine w_tf ?_; assumption) | (refine w_ft ?_; assumption))) | (refine Es_split rfl ?_ (fun _ => ?_) (fun _ => ?_); ((fail_if_success (refine und_t ?_; assumption)); (fail_if_success (refine und_f ?_; assumption)); exact trivial)) | (with_reducible refine Es_nil ?_) | (with_reducible refine then_n ?_) | (with_reducible refine then_r ?_) | ((with_reducible refine gR ?_); first | refine ret1 rfl ?_ | refine ret2 rfl rfl ?_ | refine ret0 ?_ | refine end1 rfl ?_ | refine end0 ?_))
    all_goals simp only [cmps] at *
    all_goals first
      | rfl
      | (exfalso; omega)
def byS : List CS := [.sl 1 1 [.int .u8]]
theorem argK_by : argK Try.tab 42 = some (false, byS) := by kernel_rfl
theorem byte_of (e : List D) (h : OkCs [.int .u8] e) : ∃ n : Int, e = bE n ∧ 0 ≤ n ∧ n ≤ 255 := by
  obtain ⟨_, _, rfl, h1, h⟩ := h.cons_inv
  obtain rfl := h.nil_inv
  obtain ⟨n, rfl, hw⟩ := h1.int_inv
  have : 0 ≤ n ∧ n ≤ 255 := by
    simp [Lit.wf, IntKind.min, IntKind.max, IntKind.signed, IntKind.bits] at hw
    omega
  exact ⟨n, rfl, this⟩
theorem by_of {x : AV} (h : OkArg (false, byS) x) : ∃ l : List Int, x = .d (.sl 1 (l.map bE)) ∧ l.length ≤ 140737488351232 ∧ ∀ b ∈ l, 0 ≤ b ∧ b ≤ 255 := by
  obtain ⟨d, rfl, h⟩ := h
  obtain ⟨l, rfl, hl, hp⟩ := h.list byte_of
  exact ⟨l, rfl, by omega, hp⟩
end Go.Proofs.Ytfgmnhlopgaanaa
