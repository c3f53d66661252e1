import Derived.Test.YtglkilmflohfoaaDoorQ3
namespace Go.Proofs.YtglkilmflohfoaaDoor
open Go.SL

/-! ### posts in their order -/
def insP (p : Post) : List Post → List Post
  | [] => [p]
  | x :: r => if x.number < p.number then x :: insP p r else p :: x :: r
def isortP (l : List Post) : List Post := l.foldl (fun acc p => insP p acc) []
theorem isortP_snoc (l : List Post) (p : Post) : isortP (l ++ [p]) = insP p (isortP l) := by unfold isortP; rw [List.foldl_append]; rfl
theorem insP_perm (p : Post) : ∀ l : List Post, (insP p l).Perm (p :: l)
  | [] => List.Perm.refl _
  | x :: r => by
    rw [insP]
    split
    · exact ((insP_perm p r).cons x).trans (List.Perm.swap _ _ _)
    · exact List.Perm.refl _
theorem isortP_perm (l : List Post) : (isortP l).Perm l := by
  refine list_snoc (p := fun l => (isortP l).Perm l) (List.Perm.refl _) (fun l p ih => ?_) l
  rw [isortP_snoc]
  exact (insP_perm p _).trans ((ih.cons p).trans (List.perm_append_singleton p l).symm)
theorem insP_mem {p q : Post} {l : List Post} : q ∈ insP p l ↔ q = p ∨ q ∈ l := by rw [(insP_perm p l).mem_iff, List.mem_cons]
theorem insP_sorted {p : Post} : ∀ {l : List Post}, l.Pairwise (fun x y => x.number ≤ y.number) → (insP p l).Pairwise (fun x y => x.number ≤ y.number)
  | [], _ => List.pairwise_singleton _ _
  | x :: r, h => by
    obtain ⟨h1, h2⟩ := List.pairwise_cons.1 h
    rw [insP]
    split
    · refine List.pairwise_cons.2 ⟨fun z hz => ?_, insP_sorted h2⟩
      rcases insP_mem.1 hz with rfl | hz
      · omega
      · exact h1 z hz
    · refine List.pairwise_cons.2 ⟨fun z hz => ?_, h⟩
      rcases List.mem_cons.1 hz with rfl | hz
      · omega
      · have := h1 z hz; omega
theorem isortP_sorted (l : List Post) : (isortP l).Pairwise (fun x y => x.number ≤ y.number) := by
  refine list_snoc (p := fun l => (isortP l).Pairwise (fun x y => x.number ≤ y.number)) List.Pairwise.nil (fun l p ih => ?_) l
  rw [isortP_snoc]
  exact insP_sorted ih
theorem rowL_nodup (l : List Post) : (nums (rowL l)).Nodup := by
  refine list_snoc (p := fun l => (nums (rowL l)).Nodup) (by simp [rowL, nums]) (fun l p ih => ?_) l
  rw [rowL_snoc]
  split
  · exact ih
  · rename_i h
    unfold nums at *
    rw [List.map_append, List.nodup_append]
    exact ⟨ih, by simp, fun a ha b hb e => by simp at hb; subst hb; exact h (e ▸ ha)⟩
def mixL (a b : List Post) : List Post := rowL a ++ onlyL b a
theorem onlyL_mem {a b : List Post} {p : Post} : p ∈ onlyL a b ↔ p ∈ rowL a ∧ p.number ∉ nums b := by
  unfold onlyL
  rw [List.mem_filter]
  unfold lacks
  rw [Option.isNone_iff_eq_none, firstP_none]
theorem mixL_nodup (a b : List Post) : (nums (mixL a b)).Nodup := by
  unfold mixL nums
  rw [List.map_append, List.nodup_append]
  refine ⟨rowL_nodup a, ?_, fun x hx y hy e => ?_⟩
  · exact (List.filter_sublist.map _).nodup (rowL_nodup b)
  · subst e
    obtain ⟨p, hp, rfl⟩ := List.mem_map.1 hy
    exact (onlyL_mem.1 hp).2 ((rowL_nums a _).1 hx)
theorem num_inj {l : List Post} (h : (nums l).Nodup) {p q : Post} (hp : p ∈ l) (hq : q ∈ l) (e : p.number = q.number) : p = q := by
  induction l with
  | nil => cases hp
  | cons x l ih =>
    unfold nums at h
    rw [List.map_cons, List.nodup_cons] at h
    rcases List.mem_cons.1 hp with rfl | hp' <;> rcases List.mem_cons.1 hq with rfl | hq'
    · rfl
    · exact absurd (e ▸ List.mem_map.2 ⟨q, hq', rfl⟩) h.1
    · exact absurd (e ▸ List.mem_map.2 ⟨p, hp', rfl⟩) h.1
    · exact ih h.2 hp' hq'

/-! ### match.Mend -/
def numD : List D → Int
  | .sc (.int _ n) :: _ => n
  | _ => 0
def cmpP (x y : List D) : Int := if numD x < numD y then -1 else if numD y < numD x then 1 else 0
theorem ltOf_cmpP (x y : List D) : ltOf cmpP x y = decide (numD x < numD y) := by
  unfold ltOf cmpP
  by_cases h : numD x < numD y
  · rw [if_pos h, decide_eq_true h]; rfl
  · rw [if_neg h, decide_eq_false h]
    split <;> rfl
theorem swoP : Sort.SWO (ltOf cmpP) :=
  ⟨fun x => by rw [ltOf_cmpP]; simp, fun x y z h1 h2 => by rw [ltOf_cmpP] at *; simp at *; omega, fun x y z h1 h2 => by rw [ltOf_cmpP] at *; simp at *; omega⟩
set_option maxRecDepth 10000 in
theorem mend2_ac (p q : Post) : AC Tryd.prog 23 [.agg p.cs, .agg q.cs] [] [] (fun r _ => r = .d (.sc (.int .i64 (cmpP p.enc q.enc)))) := by
  have e : cmpP p.enc q.enc = if p.number < q.number then -1 else if q.number < p.number then 1 else 0 := rfl
  rw [e]
  refine AC_enter Tryd.func23 rfl Tryd.ntmps23 (rv := [.tmp 4]) rfl rfl (by simp) (fun w X G => ?_)
  repeat' (first | ((with_reducible refine gA ?_); (first | refine AW_seq ?_ | refine AW_region ?_ | (refine AW_cond rfl (fun hc => ?_) (fun hc => ?_) <;> try (exfalso; simp only [cmpL] at hc; omega)) | refine AW_block ?_ | refine AW_ret ?_ | refine AW_skip ?_)) | ((with_reducible refine gS ?_); refine Es_s (T := Tryd.tab) rfl rfl rfl rfl ?_) | (refine Es_skip rfl ?_ rfl ?_; (first | rfl | (refine w_tf ?_; assumption) | (refine w_ft ?_; assumption))) | (((with_reducible refine gS ?_); apply Es_xs); rfl; rfl; refine LStep_boxN rfl rfl rfl rfl rfl rfl; rfl) | (with_reducible refine Es_nil ?_) | (with_reducible refine then_n ?_) | (with_reducible refine then_r ?_) | (with_reducible refine block_n ?_) | (with_reducible refine block_r ?_) | ((with_reducible refine gR ?_); first | refine ret1 rfl ?_ | refine ret2 rfl rfl ?_ | refine ret0 ?_ | refine end1 rfl ?_ | refine end0 ?_))
  all_goals simp only [cmps] at *
  · rw [if_pos (by assumption)]
  · rw [if_neg (by omega), if_pos (by assumption)]
  · rw [if_neg (by omega), if_neg (by omega)]
set_option maxRecDepth 10000 in
theorem mend1_ac (p : Post) : AC Tryd.prog 21 [.agg p.cs] [] [] (fun r _ => r = .d (.sc (.bool true))) := by
  refine AC_enter Tryd.func21 rfl Tryd.ntmps21 (rv := [.tmp 2]) rfl rfl (by simp) (fun w X G => ?_)
  repeat' (first | ((with_reducible refine gA ?_); (first | refine AW_seq ?_ | refine AW_region ?_ | refine AW_ret ?_)) | ((with_reducible refine gS ?_); refine Es_s (T := Tryd.tab) rfl rfl rfl rfl ?_) | (refine Es_skip rfl ?_ rfl ?_; (first | rfl | (refine w_tf ?_; assumption) | (refine w_ft ?_; assumption))) | (((with_reducible refine gS ?_); apply Es_xs); rfl; rfl; refine LStep_boxN rfl rfl rfl rfl rfl rfl; rfl) | (with_reducible refine Es_nil ?_) | (with_reducible refine then_n ?_) | ((with_reducible refine gR ?_); first | refine ret1 rfl ?_ | refine ret2 rfl rfl ?_ | refine ret0 ?_ | refine end1 rfl ?_ | refine end0 ?_))
  rfl
def mendR (a b : List Post) : AV := if unlikeN a b = [] then .tup [.d (.sl 3 ((isortP (mixL a b)).map Post.enc)), .d (.sc (.int .i64 0))] else .tup [.d (.sl 3 []), .d (.sc (.int .i64 15))]
set_option maxRecDepth 20000 in
set_option maxHeartbeats 4000000 in
theorem mend_ac (a b : List Post) (ha : a.length ≤ 1048576) (hb : b.length ≤ 1048576) (ea : ∀ p ∈ a, p.entries.length ≤ 1048576) (eb : ∀ p ∈ b, p.entries.length ≤ 1048576) :
    AC Tryd.prog 9 [.d (.sl 3 (a.map Post.enc)), .d (.sl 3 (b.map Post.enc))] [] [] (fun r _ => r = mendR a b) := by
  have cd := diff_ac a b ha hb ea eb
  have cA := row_ac a ha
  have cp := pick0_ac (rowL a) (by have := rowL_len a; omega) (rowL_ents ea) (fun p _ => mend1_ac p)
  unfold diffR at cd
  have hsl : (sortI (unlikeN a b)).length = (unlikeN a b).length := by unfold sortI; simp
  have hra := rowL_len a
  have hob : (onlyL b a).length ≤ b.length := by
    unfold onlyL
    have := List.length_filter_le (lacks a) (rowL b)
    have := rowL_len b
    omega
  generalize sortI (unlikeN a b) = us at cd hsl
  have hmix : (mixL a b).map Post.enc = (rowL a).map Post.enc ++ (onlyL b a).map Post.enc := by unfold mixL; rw [List.map_append]
  have hml : (mixL a b).length = (rowL a).length + (onlyL b a).length := by unfold mixL; rw [List.length_append]
  have hper := isortP_perm (mixL a b)
  have hll : ((mixL a b).map Post.enc).length = ((isortP (mixL a b)).map Post.enc).length := by rw [List.length_map, List.length_map, hper.length_eq]
  have hnd := mixL_nodup a b
  have cs : AC Tryd.prog 22 _ _ _ _ := sortFunc_ac Tryd.sortPosts 3 Tryd.isAgg29 Tryd.sizeOf29 (callable_of Tryd.func22 rfl rfl) (callable_of Tryd.func23 rfl rfl)
    29 ((mixL a b).map Post.enc).length ((mixL a b).map Post.enc) ((isortP (mixL a b)).map Post.enc) cmpP swoP rfl (by rw [List.length_map]; omega)
    (fun x hx y hy => by
      obtain ⟨p, _, rfl⟩ := List.mem_map.1 hx
      obtain ⟨q, _, rfl⟩ := List.mem_map.1 hy
      exact mend2_ac p q)
    (hper.map _) (List.pairwise_map.2 ((isortP_sorted (mixL a b)).imp (fun h => by rw [ltOf_cmpP]; exact decide_eq_false (by simpa [Post.enc, numD] using h))))
    (fun x hx y hy h1 h2 => by
      obtain ⟨p, hp1, rfl⟩ := List.mem_map.1 hx
      obtain ⟨q, hq1, rfl⟩ := List.mem_map.1 hy
      rw [ltOf_cmpP] at h1 h2
      have e1 : ¬ p.number < q.number := of_decide_eq_false h1
      have e2 : ¬ q.number < p.number := of_decide_eq_false h2
      rw [num_inj hnd hp1 hq1 (by omega)])
  rw [hmix] at cs hll
  refine AC_enter Tryd.func9 rfl Tryd.ntmps9 (rv := [.tmp 4, .tmp 5]) rfl rfl (by simp) (fun w X G => ?_)
  repeat' (first | ((with_reducible refine gRc ?_); first | refine AW_nilD 3 4 rfl ?_ | refine AW_freeze [4] (id := 28) ⟨rfl, trivial⟩ rfl hll.symm ?_) | ((with_reducible refine gA ?_); (first | refine AW_seq ?_ | refine AW_region ?_ | (refine AW_cond rfl (fun hc => ?_) (fun hc => ?_) <;> try (exfalso; simp only [cmpL] at hc; omega)) | refine AW_ret ?_ | refine AW_skip ?_)) | ((with_reducible refine gS ?_); refine Es_s (T := Tryd.tab) rfl rfl rfl rfl ?_) | (((with_reducible refine gS ?_); apply Es_q); rfl; rfl; refine LStep_call (cd) rfl rfl rfl rfl) | (((with_reducible refine gS ?_); apply Es_xs); rfl; rfl; (refine LStep_append (T := Tryd.tab) rfl rfl rfl rfl rfl rfl rfl rfl rfl rfl ?_ ?_ ?_; rfl; (simp only [List.length_map]; omega); (unfold maxLen; simp only [List.length_map]; omega)); rfl) | (((with_reducible refine gS ?_); apply Es_xg); rfl; rfl; (first | refine LStep_callHN [] [(10, 24)] cA rfl rfl trivial rfl trivial rfl rfl | refine LStep_callHN [] [(2000, 28)] cp rfl rfl trivial rfl trivial rfl rfl | refine LStep_callHN [(1000, 28)] [] cs rfl rfl ⟨rfl, trivial⟩ rfl ⟨hll, trivial⟩ rfl rfl); rfl) | (((with_reducible refine gS ?_); apply Es_q); rfl; rfl; refine LStep_lenM (T := Tryd.tab) rfl rfl rfl rfl) | (with_reducible refine Es_nil ?_) | (with_reducible refine then_n ?_) | (with_reducible refine then_r ?_) | ((with_reducible refine gR ?_); first | refine ret1 rfl ?_ | refine ret2 rfl rfl ?_ | refine ret0 ?_ | refine end1 rfl ?_ | refine end0 ?_))
  all_goals simp only [cmps] at *
  · have h : unlikeN a b ≠ [] := by
      intro e
      rw [e] at hsl
      simp only [List.length_nil] at hsl
      omega
    rw [mendR, if_neg h]
  · have h : unlikeN a b = [] := List.eq_nil_of_length_eq_zero (by omega)
    rw [mendR, if_pos h]
end Go.Proofs.YtglkilmflohfoaaDoor
