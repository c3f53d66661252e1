import Derived.Test.YtfgmnhlopgaanaaQ5
namespace Go.Proofs.Ytfgmnhlopgaanaa
open Go.SL

/-! ### ref48.put, ref48.Mend -/
def putP (l : List Post) (p : Post) : List Post := if p.number ∈ nums l then l else insP p l
theorem insP_take {p : Post} : ∀ {m : List Post} {j : Nat}, (∀ x ∈ m.take j, x.number < p.number) → (∀ y, m[j]? = some y → ¬ y.number < p.number) → insP p m = m.take j ++ p :: m.drop j
  | [], j, _, _ => by simp [insP]
  | x :: r, 0, _, h => by rw [insP, if_neg (h x rfl)]; rfl
  | x :: r, j + 1, h1, h2 => by
    have hx := h1 x (by simp)
    rw [insP, if_pos hx, insP_take (j := j) (fun y hy => h1 y (by rw [List.take_succ_cons]; exact List.mem_cons_of_mem _ hy)) (fun y hy => h2 y (by simpa using hy))]
    simp
theorem take_ltP {m : List Post} {n : Int} {j : Nat} {p : Post} (hj : m[j]? = some p) (h : ∀ q ∈ m.take j, q.number < n) (hp : p.number < n) : ∀ q ∈ m.take (j + 1), q.number < n := by
  intro q hq
  rw [take_at hj] at hq
  rcases List.mem_append.1 hq with hq | hq
  · exact h q hq
  · rw [List.mem_singleton] at hq; subst hq; exact hp
set_option maxRecDepth 20000 in
set_option maxHeartbeats 4000000 in
theorem rput_ac (m : List Post) (p : Post) (hm : m.length ≤ 1048576) : AC Try.prog 38 [.d (.sl 3 (m.map Post.enc)), .agg p.cs] [] [] (fun r _ => r = .d (.sl 3 ((putP m p).map Post.enc))) := by
  have cf := find_ac m p.number (by omega)
  obtain ⟨hf1, hf2⟩ := findN_lt (n := p.number) m 0
  unfold putP
  refine AC_enter Try.func38 rfl Try.ntmps38 (rv := [.tmp 4]) rfl rfl (by simp) (fun w X G => ?_)
  by_cases hin : p.number ∈ nums m
  · have hf := hf2 hin
    rw [if_pos hin]
    generalize findN p.number m 0 = f at cf hf
    repeat' (first | ((with_reducible refine gA ?_); (first | refine AW_seq ?_ | refine AW_region ?_ | (refine AW_cond rfl (fun hc => ?_) (fun hc => ?_) <;> try (exfalso; simp only [cmpL] at hc; omega)) | refine AW_ret ?_)) | ((with_reducible refine gS ?_); refine Es_s (T := Try.tab) rfl rfl rfl rfl ?_) | (((with_reducible refine gS ?_); apply Es_q); rfl; rfl; refine LStep_call (cf) rfl rfl rfl rfl) | (refine Es_skip rfl ?_ rfl ?_; (first | rfl | (refine w_tf ?_; assumption) | (refine w_ft ?_; assumption))) | (((with_reducible refine gS ?_); apply Es_xs); rfl; rfl; refine LStep_boxN rfl rfl rfl rfl rfl rfl; rfl) | (with_reducible refine Es_nil ?_) | (with_reducible refine then_n ?_) | (with_reducible refine then_r ?_) | ((with_reducible refine gR ?_); first | refine ret1 rfl ?_ | refine ret2 rfl rfl ?_ | refine ret0 ?_ | refine end1 rfl ?_ | refine end0 ?_))
    all_goals simp only [cmps] at *
    all_goals first
      | (exfalso; omega)
      | rfl
  · have hf := hf1 hin
    rw [if_neg hin]
    rw [hf] at cf
    repeat' (first | ((with_reducible refine gA ?_); (first | refine AW_seq ?_ | refine AW_region ?_ | (refine AW_cond rfl (fun hc => ?_) (fun hc => ?_) <;> try (exfalso; simp only [cmpL] at hc; omega)) | refine AW_block ?_ | refine AW_skip ?_)) | ((with_reducible refine gS ?_); refine Es_s (T := Try.tab) rfl rfl rfl rfl ?_) | (((with_reducible refine gS ?_); apply Es_q); rfl; rfl; refine LStep_call (cf) rfl rfl rfl rfl) | (refine Es_skip rfl ?_ rfl ?_; (first | rfl | (refine w_tf ?_; assumption) | (refine w_ft ?_; assumption))) | (((with_reducible refine gS ?_); apply Es_xs); rfl; rfl; refine LStep_boxN rfl rfl rfl rfl rfl rfl; rfl) | (with_reducible refine Es_nil ?_) | (with_reducible refine then_n ?_))
    all_goals simp only [cmps] at *
    all_goals first
      | (exfalso; omega)
      | skip
    refine AW_forE (S := Nat) (fun j => j ≤ m.length ∧ ∀ x ∈ m.take j, x.number < p.number) (fun j => [(5, .d (.sc (.int .i64 (j : Nat))))]) (fun _ => []) (fun j => m.length - j) 0 ⟨by omega, fun p hp => by simp at hp⟩ (by (repeat' (first | exact trivial | exact rfl | (refine ⟨Or.inl rfl, ?_⟩) | (refine ⟨Or.inr rfl, ?_⟩) | (refine ⟨rfl, ?_⟩) | (refine ⟨?_, ?_⟩)))) (by (repeat' (first | exact trivial | exact rfl | (refine ⟨Or.inl rfl, ?_⟩) | (refine ⟨Or.inr rfl, ?_⟩) | (refine ⟨rfl, ?_⟩) | (refine ⟨?_, ?_⟩)))) ?_
    intro j ⟨hj, hpre⟩
    have eJ : (∀ y, m[j]? = some y → ¬ y.number < p.number) → ([] ++ List.map Post.enc (List.drop (Int.toNat 0) (List.take ((j : Nat) : Int).toNat m)) ++ [p.enc] ++ List.map Post.enc (List.drop ((j : Nat) : Int).toNat (List.take (((List.map Post.enc m).length : Nat) : Int).toNat m))) = List.map Post.enc (insP p m) := by
      intro h
      rw [insP_take hpre h, List.length_map, Int.toNat_natCast, Int.toNat_natCast, List.take_length]
      simp
    clear cf
    by_cases hjm : j < m.length
    · obtain ⟨x, hxj, _⟩ := drop_at hjm
      repeat' (first | ((with_reducible refine gRc ?_); refine AW_freeze [4] (id := 28) ⟨rfl, trivial⟩ rfl rfl ?_) | ((with_reducible refine gA ?_); (first | refine AW_seq ?_ | refine AW_region ?_ | refine AW_regionD Try.mixed ?_ | refine AW_condF rfl ?_ | (refine AW_cond rfl (fun hc => ?_) (fun hc => ?_) <;> try (exfalso; simp only [cmpL] at hc; omega)) | refine AW_block ?_ | refine AW_ret ?_ | refine AW_skip ?_ | refine AW_exit ?_)) | (first | ((with_reducible refine gS ?_); refine Es_s (T := Try.tab) rfl rfl rfl rfl ?_) | ((with_reducible refine gD ?_); refine Ed_s (T := Try.tab) rfl rfl rfl rfl ?_)) | ((first | ((with_reducible refine gS ?_); apply Es_xs) | ((with_reducible refine gD ?_); apply Ed_xs)); rfl; (first | rfl | (refine w_tt ?_; assumption)); (first | (refine LStep_litOwn (T := Try.tab) (len := 0) rfl rfl rfl rfl rfl rfl rfl rfl rfl rfl ?_ ?_; (refine Nat.le_of_ble_eq_true ?_; rfl); (unfold maxLen; omega)) | (refine LStep_append (T := Try.tab) rfl rfl rfl rfl rfl rfl rfl rfl rfl rfl ?_ ?_ ?_; rfl; (simp only [List.length_append, List.length_map, List.length_cons, List.length_nil, List.length_take, List.length_drop]; omega); (unfold maxLen; simp only [List.length_append, List.length_map, List.length_cons, List.length_nil, List.length_take, List.length_drop]; omega))); rfl) | ((first | ((with_reducible refine gS ?_); apply Es_q) | ((with_reducible refine gD ?_); apply Ed_q)); rfl; (first | rfl | (refine w_tt ?_; assumption)); (first | refine LStep_simp (T := Try.tab) rfl rfl | refine LStep_lenM (T := Try.tab) rfl rfl rfl rfl | (refine LStep_add rfl rfl rfl rfl ?_; (refine IntWalk.i64_in _ ?_; first | omega | (simp only [cmps] at *; omega))) | (refine LStep_pickT rfl rfl ?_ rfl rfl; assumption) | (refine LStep_pickF rfl rfl ?_ rfl rfl; assumption) | (refine LStep_indexM (T := Try.tab) (c := ?_) rfl rfl rfl rfl rfl rfl ?_; rotate_left; assumption) | (refine LStep_partM (T := Try.tab) rfl rfl rfl rfl rfl rfl rfl ?_ ?_ ?_; omega; (first | omega | (simp only [List.length_map]; omega)); (first | omega | (simp only [List.length_map]; omega))) | (refine LStep_lit (T := Try.tab) rfl rfl rfl rfl rfl rfl rfl rfl ?_; (refine Nat.le_of_ble_eq_true ?_; rfl)))) | (refine Ed_skip rfl ?_ rfl ?_; (first | rfl | (refine w_tf ?_; assumption) | (refine w_ft ?_; assumption))) | (refine Ed_split rfl ?_ (fun _ => ?_) (fun _ => ?_); ((fail_if_success (refine und_t ?_; assumption)); (fail_if_success (refine und_f ?_; assumption)); exact trivial)) | (with_reducible refine Es_nil ?_) | ((with_reducible refine Ed_nil ?_ ?_); kernel_rfl) | (with_reducible refine then_n ?_) | (with_reducible refine then_e ?_) | (with_reducible refine block_n ?_) | ((with_reducible refine block_e ?_ ?_); rfl) | ((with_reducible refine gR ?_); first | refine ret1 rfl ?_ | refine ret2 rfl rfl ?_ | refine ret0 ?_ | refine end1 rfl ?_ | refine end0 ?_))
      all_goals simp only [cmps] at *
      all_goals first
        | (exfalso; simp only [List.length_map] at *; omega)
        | (refine ⟨j + 1, ?_, by omega, by (repeat' (first | exact trivial | exact rfl | (refine ⟨Or.inl rfl, ?_⟩) | (refine ⟨Or.inr rfl, ?_⟩) | (refine ⟨rfl, ?_⟩) | (refine ⟨?_, ?_⟩))), by (repeat' (first | exact trivial | exact rfl | (refine ⟨Or.inl rfl, ?_⟩) | (refine ⟨Or.inr rfl, ?_⟩) | (refine ⟨rfl, ?_⟩) | (refine ⟨?_, ?_⟩))), by (repeat' (first | exact trivial | exact rfl | (refine ⟨Or.inl rfl, ?_⟩) | (refine ⟨Or.inr rfl, ?_⟩) | (refine ⟨rfl, ?_⟩) | (refine ⟨?_, ?_⟩))), by (repeat' (first | exact trivial | exact rfl | (refine ⟨Or.inl rfl, ?_⟩) | (refine ⟨Or.inr rfl, ?_⟩) | (refine ⟨rfl, ?_⟩) | (refine ⟨?_, ?_⟩)))⟩; exact ⟨by omega, take_ltP hxj hpre (by omega)⟩)
        | skip
      have eJ' := eJ (fun y hy => by rw [hxj] at hy; cases hy; omega)
      rw [← eJ']; rfl
    · have : j = m.length := by omega
      subst this
      repeat' (first | ((with_reducible refine gRc ?_); refine AW_freeze [4] (id := 28) ⟨rfl, trivial⟩ rfl rfl ?_) | ((with_reducible refine gA ?_); (first | refine AW_seq ?_ | refine AW_regionD Try.mixed ?_ | refine AW_condF rfl ?_ | refine AW_ret ?_ | refine AW_exit ?_)) | ((with_reducible refine gD ?_); refine Ed_s (T := Try.tab) rfl rfl rfl rfl ?_) | (((with_reducible refine gD ?_); apply Ed_xs); rfl; (first | rfl | (refine w_tt ?_; assumption)); (first | (refine LStep_litOwn (T := Try.tab) (len := 0) rfl rfl rfl rfl rfl rfl rfl rfl rfl rfl ?_ ?_; (refine Nat.le_of_ble_eq_true ?_; rfl); (unfold maxLen; omega)) | (refine LStep_append (T := Try.tab) rfl rfl rfl rfl rfl rfl rfl rfl rfl rfl ?_ ?_ ?_; rfl; (simp only [List.length_append, List.length_map, List.length_cons, List.length_nil, List.length_take, List.length_drop]; omega); (unfold maxLen; simp only [List.length_append, List.length_map, List.length_cons, List.length_nil, List.length_take, List.length_drop]; omega))); rfl) | (((with_reducible refine gD ?_); apply Ed_q); rfl; (first | rfl | (refine w_tt ?_; assumption)); (first | refine LStep_simp (T := Try.tab) rfl rfl | refine LStep_lenM (T := Try.tab) rfl rfl rfl rfl | (refine LStep_pickF rfl rfl ?_ rfl rfl; assumption) | (refine LStep_partM (T := Try.tab) rfl rfl rfl rfl rfl rfl rfl ?_ ?_ ?_; omega; (first | omega | (simp only [List.length_map]; omega)); (first | omega | (simp only [List.length_map]; omega))) | (refine LStep_lit (T := Try.tab) rfl rfl rfl rfl rfl rfl rfl rfl ?_; (refine Nat.le_of_ble_eq_true ?_; rfl)))) | (refine Ed_skip rfl ?_ rfl ?_; (first | rfl | (refine w_tf ?_; assumption) | (refine w_ft ?_; assumption))) | (refine Ed_split rfl ?_ (fun _ => ?_) (fun _ => ?_); ((fail_if_success (refine und_t ?_; assumption)); (fail_if_success (refine und_f ?_; assumption)); exact trivial)) | ((with_reducible refine Ed_nil ?_ ?_); kernel_rfl) | (with_reducible refine then_n ?_) | (with_reducible refine then_e ?_) | ((with_reducible refine block_e ?_ ?_); rfl) | ((with_reducible refine gR ?_); first | refine ret1 rfl ?_ | refine ret2 rfl rfl ?_ | refine ret0 ?_ | refine end1 rfl ?_ | refine end0 ?_))
      all_goals simp only [cmps] at *
      all_goals first
        | (exfalso; simp only [List.length_map] at *; omega)
        | skip
      have eJ' := eJ (fun y hy => by rw [List.getElem?_eq_none (Nat.le_refl _)] at hy; cases hy)
      rw [← eJ']; rfl
def putAll (m l : List Post) : List Post := l.foldl putP m
theorem putAll_at {m l : List Post} {k : Nat} {p : Post} (h : l[k]? = some p) : putAll m (l.take (k + 1)) = putP (putAll m (l.take k)) p := by
  unfold putAll
  rw [take_at h, List.foldl_append]
  rfl
theorem putP_len (m : List Post) (p : Post) : (putP m p).length ≤ m.length + 1 := by
  unfold putP
  split
  · omega
  · rw [(insP_perm p m).length_eq]; simp
theorem putAll_len (m l : List Post) : (putAll m l).length ≤ m.length + l.length := by
  refine list_snoc (p := fun l => (putAll m l).length ≤ m.length + l.length) (by simp [putAll]) (fun l p ih => ?_) l
  have h1 : putAll m (l ++ [p]) = putP (putAll m l) p := by unfold putAll; rw [List.foldl_append]; rfl
  have h2 := putP_len (putAll m l) p
  rw [h1, List.length_append]
  simp only [List.length_cons, List.length_nil]
  omega
theorem nums_perm {l m : List Post} (h : l.Perm m) (n : Int) : n ∈ nums l ↔ n ∈ nums m := (h.map _).mem_iff
theorem putAll_eq (l : List Post) : putAll [] l = isortP (rowL l) := by
  refine list_snoc (p := fun l => putAll [] l = isortP (rowL l)) rfl (fun l p ih => ?_) l
  have h1 : putAll [] (l ++ [p]) = putP (putAll [] l) p := by unfold putAll; rw [List.foldl_append]; rfl
  rw [h1, ih, rowL_snoc, putP]
  have h2 := nums_perm (isortP_perm (rowL l)) p.number
  by_cases h : p.number ∈ nums (rowL l)
  · rw [if_pos h, if_pos (h2.2 h)]
  · rw [if_neg h, if_neg (fun x => h (h2.1 x)), isortP_snoc]
theorem filter_snocL (a b : List Post) (p : Post) : (rowL (b ++ [p])).filter (lacks a) = if p.number ∈ nums b ∨ p.number ∈ nums a then (rowL b).filter (lacks a) else (rowL b).filter (lacks a) ++ [p] := by
  rw [rowL_snoc]
  by_cases h1 : p.number ∈ nums b
  · rw [if_pos ((rowL_nums _ _).2 h1), if_pos (.inl h1)]
  · rw [if_neg (fun h => h1 ((rowL_nums _ _).1 h)), List.filter_append]
    have e : lacks a p = true ↔ p.number ∉ nums a := by unfold lacks; rw [Option.isNone_iff_eq_none, firstP_none]
    by_cases h2 : p.number ∈ nums a
    · rw [if_pos (.inr h2)]
      have : lacks a p = false := by
        cases hq : lacks a p
        · rfl
        · exact absurd h2 (e.1 hq)
      simp [this]
    · rw [if_neg (by simp [h1, h2])]
      simp [e.2 h2]
theorem mixL_eq (a b : List Post) : mixL a b = rowL (a ++ b) := by
  unfold mixL onlyL
  refine list_snoc (p := fun b => rowL a ++ (rowL b).filter (lacks a) = rowL (a ++ b)) (by simp [rowL]) (fun b p ih => ?_) b
  rw [filter_snocL, ← List.append_assoc, rowL_snoc (a ++ b) p, ← ih]
  have e : p.number ∈ nums (rowL a ++ (rowL b).filter (lacks a)) ↔ p.number ∈ nums b ∨ p.number ∈ nums a := by
    rw [ih, rowL_nums]
    unfold nums
    rw [List.map_append, List.mem_append]
    exact Or.comm
  by_cases h : p.number ∈ nums b ∨ p.number ∈ nums a
  · rw [if_pos h, if_pos (e.2 h)]
  · rw [if_neg h, if_neg (fun x => h (e.1 x)), List.append_assoc]
set_option maxRecDepth 20000 in
set_option maxHeartbeats 4000000 in
theorem rmend_ac (a b : List Post) (ha : a.length ≤ 1000) (hb : b.length ≤ 1000) (ea : ∀ p ∈ a, p.entries.length ≤ 1048576) :
    AC Try.prog 17 [.d (.sl 3 (a.map Post.enc)), .d (.sl 3 (b.map Post.enc))] [] [] (fun r _ => r = mendR a b) := by
  have cu := runlike_ac a b (by omega) (by omega) ea
  rw [← sortI_eq] at cu
  have hsl : (sortI (unlikeN a b)).length = (unlikeN a b).length := by unfold sortI; simp
  generalize sortI (unlikeN a b) = us at cu hsl
  have hres : putAll (putAll [] a) b = isortP (mixL a b) := by rw [mixL_eq, ← putAll_eq]; unfold putAll; rw [List.foldl_append]
  have hl1 := fun k => putAll_len [] (a.take k)
  have hl2 := fun k => putAll_len (putAll [] a) (b.take k)
  have hl3 := putAll_len [] a
  simp only [List.length_take, List.length_nil] at hl1 hl2 hl3
  have cp := fun m p h => rput_ac m p h
  refine AC_enter Try.func17 rfl Try.ntmps17 (rv := [.tmp 4, .tmp 5]) rfl rfl (by simp) (fun w X G => ?_)
  by_cases hu : unlikeN a b = []
  · have hz : us.length = 0 := by rw [hsl, hu]; rfl
    unfold mendR
    rw [if_pos hu, ← hres]
    repeat' (first | ((with_reducible refine gA ?_); (first | refine AW_seq ?_ | refine AW_region ?_ | (refine AW_cond rfl (fun hc => ?_) (fun hc => ?_) <;> try (exfalso; simp only [cmpL] at hc; omega)) | refine AW_block ?_ | refine AW_skip ?_)) | ((with_reducible refine gS ?_); refine Es_s (T := Try.tab) rfl rfl rfl rfl ?_) | (((with_reducible refine gS ?_); apply Es_q); rfl; rfl; refine LStep_call (cu) rfl rfl rfl rfl) | (((with_reducible refine gS ?_); apply Es_q); rfl; rfl; (first | refine LStep_lenM (T := Try.tab) rfl rfl rfl rfl | (refine LStep_lit (T := Try.tab) rfl rfl rfl rfl rfl rfl rfl rfl ?_; (refine Nat.le_of_ble_eq_true ?_; rfl)))) | (with_reducible refine Es_nil ?_) | (with_reducible refine then_n ?_))
    all_goals simp only [cmps] at *
    all_goals first
      | (exfalso; omega)
      | skip
    clear cu
    refine AW_forE (S := Nat) (fun k => k ≤ a.length) (fun k => [(7, .d (.sc (.int .i64 (k : Nat)))), (6, .d (.sl 3 ((putAll [] (a.take k)).map Post.enc)))]) (fun _ => []) (fun k => a.length - k) 0 (by omega) (by (repeat' (first | exact trivial | exact rfl | (refine ⟨Or.inl rfl, ?_⟩) | (refine ⟨Or.inr rfl, ?_⟩) | (refine ⟨rfl, ?_⟩) | (refine ⟨?_, ?_⟩)))) (by (repeat' (first | exact trivial | exact rfl | (refine ⟨Or.inl rfl, ?_⟩) | (refine ⟨Or.inr rfl, ?_⟩) | (refine ⟨rfl, ?_⟩) | (refine ⟨?_, ?_⟩)))) ?_
    intro k hk
    by_cases hlt : k < a.length
    · obtain ⟨p, hp, _⟩ := drop_at hlt
      have ht := putAll_at (m := []) hp
      have cp' := cp (putAll [] (a.take k)) p (by have := hl1 k; omega)
      clear cp hl1 hl2 hl3 hres
      generalize putAll [] (a.take k) = m at ht cp'
      repeat' (first | ((with_reducible refine gA ?_); (first | refine AW_seq ?_ | refine AW_region ?_ | (refine AW_cond rfl (fun hc => ?_) (fun hc => ?_) <;> try (exfalso; simp only [cmpL] at hc; omega)) | refine AW_block ?_ | refine AW_skip ?_)) | ((with_reducible refine gS ?_); refine Es_s (T := Try.tab) rfl rfl rfl rfl ?_) | (((with_reducible refine gS ?_); apply Es_q); rfl; rfl; refine LStep_call (cp') rfl rfl rfl rfl) | (((with_reducible refine gS ?_); apply Es_q); rfl; rfl; (first | refine LStep_lenM (T := Try.tab) rfl rfl rfl rfl | (refine LStep_add rfl rfl rfl rfl ?_; (refine IntWalk.i64_in _ ?_; first | omega | (simp only [cmps] at *; omega))) | (refine LStep_indexM (T := Try.tab) (c := ?_) rfl rfl rfl rfl rfl rfl ?_; rotate_left; assumption))) | (with_reducible refine Es_nil ?_) | (with_reducible refine then_n ?_) | (with_reducible refine block_n ?_))
      refine ⟨k + 1, by omega, by omega, ?_, by (repeat' (first | exact trivial | exact rfl | (refine ⟨Or.inl rfl, ?_⟩) | (refine ⟨Or.inr rfl, ?_⟩) | (refine ⟨rfl, ?_⟩) | (refine ⟨?_, ?_⟩))), by (repeat' (first | exact trivial | exact rfl | (refine ⟨Or.inl rfl, ?_⟩) | (refine ⟨Or.inr rfl, ?_⟩) | (refine ⟨rfl, ?_⟩) | (refine ⟨?_, ?_⟩))), by (repeat' (first | exact trivial | exact rfl | (refine ⟨Or.inl rfl, ?_⟩) | (refine ⟨Or.inr rfl, ?_⟩) | (refine ⟨rfl, ?_⟩) | (refine ⟨?_, ?_⟩)))⟩
      rw [ht]; (repeat' (first | exact trivial | exact rfl | (refine ⟨Or.inl rfl, ?_⟩) | (refine ⟨Or.inr rfl, ?_⟩) | (refine ⟨rfl, ?_⟩) | (refine ⟨?_, ?_⟩)))
    · have : k = a.length := by omega
      subst this
      rw [List.take_length]
      repeat' (first | ((with_reducible refine gA ?_); (first | refine AW_seq ?_ | refine AW_region ?_ | (refine AW_cond rfl (fun hc => ?_) (fun hc => ?_) <;> try (exfalso; simp only [cmpL] at hc; omega)) | refine AW_block ?_ | refine AW_exit ?_)) | ((with_reducible refine gS ?_); refine Es_s (T := Try.tab) rfl rfl rfl rfl ?_) | (((with_reducible refine gS ?_); apply Es_q); rfl; rfl; refine LStep_lenM (T := Try.tab) rfl rfl rfl rfl) | (with_reducible refine Es_nil ?_) | (with_reducible refine then_n ?_) | (with_reducible refine then_e ?_) | ((with_reducible refine block_e ?_ ?_); rfl))
      refine AW_forE (S := Nat) (fun j => j ≤ b.length) (fun j => [(8, .d (.sc (.int .i64 (j : Nat)))), (6, .d (.sl 3 ((putAll (putAll [] a) (b.take j)).map Post.enc)))]) (fun _ => []) (fun j => b.length - j) 0 (by omega) (by (repeat' (first | exact trivial | exact rfl | (refine ⟨Or.inl rfl, ?_⟩) | (refine ⟨Or.inr rfl, ?_⟩) | (refine ⟨rfl, ?_⟩) | (refine ⟨?_, ?_⟩)))) (by (repeat' (first | exact trivial | exact rfl | (refine ⟨Or.inl rfl, ?_⟩) | (refine ⟨Or.inr rfl, ?_⟩) | (refine ⟨rfl, ?_⟩) | (refine ⟨?_, ?_⟩)))) ?_
      intro j hj
      by_cases hlt : j < b.length
      · obtain ⟨p, hp, _⟩ := drop_at hlt
        have ht := putAll_at (m := putAll [] a) hp
        have cp' := cp (putAll (putAll [] a) (b.take j)) p (by have := hl2 j; omega)
        clear cp hl1 hl2 hl3 hres
        generalize putAll [] a = n at ht cp'
        generalize putAll n (b.take j) = m at ht cp'
        repeat' (first | ((with_reducible refine gA ?_); (first | refine AW_seq ?_ | refine AW_region ?_ | (refine AW_cond rfl (fun hc => ?_) (fun hc => ?_) <;> try (exfalso; simp only [cmpL] at hc; omega)) | refine AW_block ?_ | refine AW_skip ?_)) | ((with_reducible refine gS ?_); refine Es_s (T := Try.tab) rfl rfl rfl rfl ?_) | (((with_reducible refine gS ?_); apply Es_q); rfl; rfl; refine LStep_call (cp') rfl rfl rfl rfl) | (((with_reducible refine gS ?_); apply Es_q); rfl; rfl; (first | refine LStep_lenM (T := Try.tab) rfl rfl rfl rfl | (refine LStep_add rfl rfl rfl rfl ?_; (refine IntWalk.i64_in _ ?_; first | omega | (simp only [cmps] at *; omega))) | (refine LStep_indexM (T := Try.tab) (c := ?_) rfl rfl rfl rfl rfl rfl ?_; rotate_left; assumption))) | (with_reducible refine Es_nil ?_) | (with_reducible refine then_n ?_) | (with_reducible refine block_n ?_))
        refine ⟨j + 1, by omega, by omega, ?_, by (repeat' (first | exact trivial | exact rfl | (refine ⟨Or.inl rfl, ?_⟩) | (refine ⟨Or.inr rfl, ?_⟩) | (refine ⟨rfl, ?_⟩) | (refine ⟨?_, ?_⟩))), by (repeat' (first | exact trivial | exact rfl | (refine ⟨Or.inl rfl, ?_⟩) | (refine ⟨Or.inr rfl, ?_⟩) | (refine ⟨rfl, ?_⟩) | (refine ⟨?_, ?_⟩))), by (repeat' (first | exact trivial | exact rfl | (refine ⟨Or.inl rfl, ?_⟩) | (refine ⟨Or.inr rfl, ?_⟩) | (refine ⟨rfl, ?_⟩) | (refine ⟨?_, ?_⟩)))⟩
        rw [ht]; (repeat' (first | exact trivial | exact rfl | (refine ⟨Or.inl rfl, ?_⟩) | (refine ⟨Or.inr rfl, ?_⟩) | (refine ⟨rfl, ?_⟩) | (refine ⟨?_, ?_⟩)))
      · have : j = b.length := by omega
        subst this
        rw [List.take_length]
        repeat' (first | ((with_reducible refine gA ?_); (first | refine AW_seq ?_ | refine AW_region ?_ | (refine AW_cond rfl (fun hc => ?_) (fun hc => ?_) <;> try (exfalso; simp only [cmpL] at hc; omega)) | refine AW_ret ?_ | refine AW_exit ?_)) | ((with_reducible refine gS ?_); refine Es_s (T := Try.tab) rfl rfl rfl rfl ?_) | (((with_reducible refine gS ?_); apply Es_q); rfl; rfl; refine LStep_lenM (T := Try.tab) rfl rfl rfl rfl) | (with_reducible refine Es_nil ?_) | (with_reducible refine then_n ?_) | (with_reducible refine then_e ?_) | ((with_reducible refine block_e ?_ ?_); rfl) | ((with_reducible refine gR ?_); first | refine ret1 rfl ?_ | refine ret2 rfl rfl ?_ | refine ret0 ?_ | refine end1 rfl ?_ | refine end0 ?_))
        rfl
  · have hz : us.length ≠ 0 := by rw [hsl]; exact fun e => hu (List.eq_nil_of_length_eq_zero e)
    unfold mendR
    rw [if_neg hu]
    repeat' (first | ((with_reducible refine gRc ?_); refine AW_nilD 3 4 rfl ?_) | ((with_reducible refine gA ?_); (first | refine AW_seq ?_ | refine AW_region ?_ | (refine AW_cond rfl (fun hc => ?_) (fun hc => ?_) <;> try (exfalso; simp only [cmpL] at hc; omega)) | refine AW_ret ?_)) | ((with_reducible refine gS ?_); refine Es_s (T := Try.tab) rfl rfl rfl rfl ?_) | (((with_reducible refine gS ?_); apply Es_q); rfl; rfl; refine LStep_call (cu) rfl rfl rfl rfl) | (((with_reducible refine gS ?_); apply Es_q); rfl; rfl; refine LStep_lenM (T := Try.tab) rfl rfl rfl rfl) | (with_reducible refine Es_nil ?_) | (with_reducible refine then_n ?_) | (with_reducible refine then_r ?_) | ((with_reducible refine gR ?_); first | refine ret1 rfl ?_ | refine ret2 rfl rfl ?_ | refine ret0 ?_ | refine end1 rfl ?_ | refine end0 ?_))
    all_goals simp only [cmps] at *
    all_goals first
      | (exfalso; omega)
      | rfl
end Go.Proofs.Ytfgmnhlopgaanaa
