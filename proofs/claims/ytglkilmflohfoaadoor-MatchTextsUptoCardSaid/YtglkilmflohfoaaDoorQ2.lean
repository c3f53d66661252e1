import Derived.Test.YtglkilmflohfoaaDoorQ1
import Derived.Test.YtglkilmflohfoaaDoorH1
import Derived.Test.YtglkilmflohfoaaDoorSp
namespace Go.Proofs.YtglkilmflohfoaaDoor
open Go.SL

/-! ### maps with int keys -/
theorem mat_int {α : Type} (key : α → Int) (val : α → AV) (n : Int) : ∀ (l : List α) (i : Nat), (mat (.int .i64 n) (l.map fun x => (.int .i64 (key x), val x)) i).map (·.2) = (l.find? (fun x => n == key x)).map val
  | [], _ => rfl
  | x :: l, i => by
    rw [List.map_cons, mat, List.find?_cons]
    show Option.map _ (bif (n == key x) then _ else _) = _
    cases hq : n == key x
    · exact mat_int key val n l (i + 1)
    · rfl
def byE (l : List Post) : List (Value × AV) := l.map fun p => (.int .i64 p.number, .agg p.cs)
theorem byE_find (n : Int) (l : List Post) : mfind (.int .i64 n) (byE l) = (firstP n l).map fun p => .agg p.cs := mat_int Post.number (fun p => .agg p.cs) n l 0
theorem byE_keys (l : List Post) : ∀ p ∈ byE l, keyB (.int .i64) p.1 = true := by
  intro p hp
  obtain ⟨q, _, rfl⟩ := List.mem_map.1 hp
  rfl
theorem byE_put {l : List Post} {p : Post} (h : p.number ∉ nums l) : mput (.int .i64 p.number) (.agg p.cs) (byE l) = byE (l ++ [p]) := by
  have h1 := byE_find p.number l
  rw [firstP_none.2 h, Option.map_none] at h1
  unfold mfind at h1
  unfold mput
  cases hm : mat (.int .i64 p.number) (byE l) 0 with
  | none => simp [byE]
  | some q => rw [hm] at h1; cases h1

/-! ### match.row -/
def rowL (l : List Post) : List Post := l.foldl (fun acc p => if p.number ∈ nums acc then acc else acc ++ [p]) []
theorem rowL_snoc (l : List Post) (p : Post) : rowL (l ++ [p]) = if p.number ∈ nums (rowL l) then rowL l else rowL l ++ [p] := by unfold rowL; rw [List.foldl_append]; rfl
theorem rowL_nums (l : List Post) (n : Int) : n ∈ nums (rowL l) ↔ n ∈ nums l := by
  refine list_snoc (p := fun l => n ∈ nums (rowL l) ↔ n ∈ nums l) (by simp [rowL]) (fun l p ih => ?_) l
  rw [rowL_snoc]
  have e : n ∈ nums (l ++ [p]) ↔ n ∈ nums l ∨ n = p.number := by simp [nums]
  split
  · rename_i h
    rw [e, ih]
    constructor
    · exact .inl
    · rintro (h1 | rfl)
      · exact h1
      · exact ih.1 h
  · have e2 : n ∈ nums (rowL l ++ [p]) ↔ n ∈ nums (rowL l) ∨ n = p.number := by simp [nums]
    rw [e, e2, ih]
theorem rowL_len (l : List Post) : (rowL l).length ≤ l.length := by
  refine list_snoc (p := fun l => (rowL l).length ≤ l.length) (by simp [rowL]) (fun l p ih => ?_) l
  rw [rowL_snoc]
  split <;> simp <;> omega
theorem rowL_mem {q : Post} (l : List Post) : q ∈ rowL l → q ∈ l := by
  refine list_snoc (p := fun l => q ∈ rowL l → q ∈ l) (fun h => h) (fun l p ih h => ?_) l
  rw [rowL_snoc] at h
  split at h
  · exact List.mem_append_left _ (ih h)
  · rcases List.mem_append.1 h with h | h
    · exact List.mem_append_left _ (ih h)
    · exact List.mem_append_right _ h
theorem firstP_app (n : Int) (a b : List Post) : firstP n (a ++ b) = (firstP n a).or (firstP n b) := by unfold firstP; rw [List.find?_append]
theorem rowL_first (n : Int) (l : List Post) : firstP n (rowL l) = firstP n l := by
  refine list_snoc (p := fun l => firstP n (rowL l) = firstP n l) rfl (fun l p ih => ?_) l
  rw [rowL_snoc, firstP_app]
  split
  · rename_i h
    rw [ih]
    cases hf : firstP n l with
    | some q => rfl
    | none =>
      have : ¬ n = p.number := fun e => (firstP_none.1 hf) (e ▸ (rowL_nums l p.number).1 h)
      simp [firstP, this]
  · rw [firstP_app, ih]
set_option maxRecDepth 10000 in
set_option maxHeartbeats 2000000 in
theorem row_ac (l : List Post) (hl : l.length ≤ 1048576) : AC Tryd.prog 15 [.d (.sl 3 (l.map Post.enc))] [] [] (fun r h' => r = .tup [.d (.sl 3 ((rowL l).map Post.enc)), .mp 10] ∧ SubH [(10, some (.map 3 29 (byE (rowL l)) none))] h') := by
  refine AC_enter Tryd.func15 rfl Tryd.ntmps15 (rv := [.tmp 2, .tmp 3]) rfl rfl (by simp) (fun w X G => ?_)
  repeat' (first | ((with_reducible refine gA ?_); (first | refine AW_seq ?_ | refine AW_region ?_ | refine AW_block ?_)) | ((with_reducible refine gS ?_); refine Es_s (T := Tryd.tab) rfl rfl rfl rfl ?_) | (((with_reducible refine gS ?_); apply Es_xs); rfl; rfl; refine LStep_makeMap (kt := 3) (et := 29) rfl rfl rfl rfl; rfl) | (((with_reducible refine gS ?_); apply Es_q); rfl; rfl; refine LStep_lenM (T := Tryd.tab) rfl rfl rfl rfl) | (with_reducible refine Es_nil ?_) | (with_reducible refine then_n ?_))
  refine AW_openNil (t := 4) (id := 2000) (e := 29) (sz := 3) rfl rfl rfl rfl ?_
  refine AW_forE (S := Nat) (fun k => k ≤ l.length) (fun k => [(13, .d (.sc (.int .i64 (k : Nat)))), (4, .own 2000 ((rowL (l.take k)).map Post.enc).length)]) (fun k => [(2000, some (.arr 29 3 ((rowL (l.take k)).map Post.enc))), (10, some (.map 3 29 (byE (rowL (l.take k))) none))]) (fun k => l.length - k) 0 (by omega) (by (repeat' (first | exact trivial | exact rfl | (refine ⟨Or.inl rfl, ?_⟩) | (refine ⟨Or.inr rfl, ?_⟩) | (refine ⟨Or.inr trivial, ?_⟩) | (refine ⟨rfl, ?_⟩) | (refine ⟨?_, ?_⟩)))) (by (repeat' (first | exact trivial | exact rfl | (refine ⟨Or.inl rfl, ?_⟩) | (refine ⟨Or.inr rfl, ?_⟩) | (refine ⟨Or.inr trivial, ?_⟩) | (refine ⟨rfl, ?_⟩) | (refine ⟨?_, ?_⟩)))) ?_
  intro k hk
  by_cases hlt : k < l.length
  · obtain ⟨p, hp, _⟩ := drop_at hlt
    have ht : rowL (l.take (k + 1)) = if p.number ∈ nums (rowL (l.take k)) then rowL (l.take k) else rowL (l.take k) ++ [p] := by rw [take_at hp, rowL_snoc]
    have hln := rowL_len (l.take k)
    rw [List.length_take] at hln
    generalize rowL (l.take k) = m at ht hln
    have hfind := byE_find p.number m
    by_cases hin : p.number ∈ nums m
    · rw [if_pos hin] at ht
      obtain ⟨q, hq⟩ : ∃ q, firstP p.number m = some q := by
        cases h : firstP p.number m with
        | none => exact absurd hin (firstP_none.1 h)
        | some q => exact ⟨q, rfl⟩
      rw [hq, Option.map_some] at hfind
      repeat' (first | ((with_reducible refine gA ?_); (first | refine AW_seq ?_ | refine AW_region ?_ | refine AW_condF rfl ?_ | (refine AW_cond rfl (fun hc => ?_) (fun hc => ?_) <;> try (exfalso; simp only [cmpL] at hc; omega)) | refine AW_block ?_ | refine AW_skip ?_)) | ((with_reducible refine gS ?_); refine Es_s (T := Tryd.tab) rfl rfl rfl rfl ?_) | (((with_reducible refine gS ?_); apply Es_q); rfl; rfl; (refine LStep_lookupOk (T := Tryd.tab) (c := .agg q.cs) rfl rfl rfl rfl rfl rfl rfl rfl ?_ ?_; exact byE_keys _; exact hfind)) | (((with_reducible refine gS ?_); apply Es_q); rfl; rfl; (first | (refine LStep_add rfl rfl rfl rfl ?_; (refine IntWalk.i64_in _ ?_; first | omega | (simp only [cmps] at *; omega))) | (refine LStep_indexM (T := Tryd.tab) (c := ?_) rfl rfl rfl rfl rfl rfl ?_; rotate_left; assumption))) | (refine Es_skip rfl ?_ rfl ?_; (first | rfl | (refine w_tf ?_; assumption) | (refine w_ft ?_; assumption))) | (((with_reducible refine gS ?_); apply Es_xs); rfl; rfl; refine LStep_allocN (T := Tryd.tab) rfl rfl rfl rfl rfl rfl; rfl) | (((with_reducible refine gS ?_); apply Es_xn); rfl; rfl; (refine LStep_storeN (T := Tryd.tab) rfl rfl rfl rfl rfl rfl rfl ?_ rfl; (refine Nat.le_of_ble_eq_true ?_; rfl)); rfl) | (with_reducible refine Es_nil ?_) | (with_reducible refine then_n ?_) | (with_reducible refine block_n ?_))
      refine ⟨k + 1, by omega, by omega, ?_, by (repeat' (first | exact trivial | exact rfl | (refine ⟨Or.inl rfl, ?_⟩) | (refine ⟨Or.inr rfl, ?_⟩) | (refine ⟨Or.inr trivial, ?_⟩) | (refine ⟨rfl, ?_⟩) | (refine ⟨?_, ?_⟩))), ?_, by (repeat' (first | exact trivial | exact rfl | (refine ⟨Or.inl rfl, ?_⟩) | (refine ⟨Or.inr rfl, ?_⟩) | (refine ⟨Or.inr trivial, ?_⟩) | (refine ⟨rfl, ?_⟩) | (refine ⟨?_, ?_⟩)))⟩
      all_goals (rw [ht]; (repeat' (first | exact trivial | exact rfl | (refine ⟨Or.inl rfl, ?_⟩) | (refine ⟨Or.inr rfl, ?_⟩) | (refine ⟨Or.inr trivial, ?_⟩) | (refine ⟨rfl, ?_⟩) | (refine ⟨?_, ?_⟩))))
    · rw [if_neg hin] at ht
      rw [firstP_none.2 hin, Option.map_none] at hfind
      have hput := byE_put hin
      repeat' (first | ((with_reducible refine gA ?_); (first | refine AW_seq ?_ | refine AW_region ?_ | refine AW_condT rfl ?_ | (refine AW_cond rfl (fun hc => ?_) (fun hc => ?_) <;> try (exfalso; simp only [cmpL] at hc; omega)) | refine AW_block ?_ | refine AW_skip ?_)) | ((with_reducible refine gS ?_); refine Es_s (T := Tryd.tab) rfl rfl rfl rfl ?_) | (((with_reducible refine gS ?_); apply Es_q); rfl; rfl; (refine LStep_lookupNoZ (T := Tryd.tab) rfl rfl rfl rfl rfl rfl rfl rfl rfl rfl ?_ ?_; exact byE_keys _; exact hfind)) | (((with_reducible refine gS ?_); apply Es_xs); rfl; rfl; (refine LStep_append (T := Tryd.tab) rfl rfl rfl rfl rfl rfl rfl rfl rfl rfl ?_ ?_ ?_; rfl; (rw [List.length_map]; simp only [List.length_cons, List.length_nil]; omega); (unfold maxLen; rw [List.length_map]; simp only [List.length_cons, List.length_nil]; omega)); rfl) | (((with_reducible refine gS ?_); apply Es_xn); rfl; rfl; (refine LStep_mapUpdate (T := Tryd.tab) rfl rfl rfl rfl rfl rfl rfl rfl rfl ?_ rfl; exact byE_keys _); rfl) | (((with_reducible refine gS ?_); apply Es_q); rfl; rfl; (first | (refine LStep_add rfl rfl rfl rfl ?_; (refine IntWalk.i64_in _ ?_; first | omega | (simp only [cmps] at *; omega))) | (refine LStep_indexM (T := Tryd.tab) (c := ?_) rfl rfl rfl rfl rfl rfl ?_; rotate_left; assumption) | (refine LStep_lit (T := Tryd.tab) rfl rfl rfl rfl rfl rfl rfl rfl ?_; (refine Nat.le_of_ble_eq_true ?_; rfl)))) | (refine Es_skip rfl ?_ rfl ?_; (first | rfl | (refine w_tf ?_; assumption) | (refine w_ft ?_; assumption))) | (((with_reducible refine gS ?_); apply Es_xs); rfl; rfl; refine LStep_allocN (T := Tryd.tab) rfl rfl rfl rfl rfl rfl; rfl) | (((with_reducible refine gS ?_); apply Es_xn); rfl; rfl; (refine LStep_storeN (T := Tryd.tab) rfl rfl rfl rfl rfl rfl rfl ?_ rfl; (refine Nat.le_of_ble_eq_true ?_; rfl)); rfl) | (with_reducible refine Es_nil ?_) | (with_reducible refine then_n ?_) | (with_reducible refine block_n ?_))
      refine ⟨k + 1, by omega, by omega, ?_, by (repeat' (first | exact trivial | exact rfl | (refine ⟨Or.inl rfl, ?_⟩) | (refine ⟨Or.inr rfl, ?_⟩) | (refine ⟨Or.inr trivial, ?_⟩) | (refine ⟨rfl, ?_⟩) | (refine ⟨?_, ?_⟩))), ?_, by (repeat' (first | exact trivial | exact rfl | (refine ⟨Or.inl rfl, ?_⟩) | (refine ⟨Or.inr rfl, ?_⟩) | (refine ⟨Or.inr trivial, ?_⟩) | (refine ⟨rfl, ?_⟩) | (refine ⟨?_, ?_⟩)))⟩
      · rw [ht, List.map_append]; (repeat' (first | exact trivial | exact rfl | (refine ⟨Or.inl rfl, ?_⟩) | (refine ⟨Or.inr rfl, ?_⟩) | (refine ⟨Or.inr trivial, ?_⟩) | (refine ⟨rfl, ?_⟩) | (refine ⟨?_, ?_⟩)))
      · rw [ht, List.map_append, ← hput]; (repeat' (first | exact trivial | exact rfl | (refine ⟨Or.inl rfl, ?_⟩) | (refine ⟨Or.inr rfl, ?_⟩) | (refine ⟨Or.inr trivial, ?_⟩) | (refine ⟨rfl, ?_⟩) | (refine ⟨?_, ?_⟩)))
  · have : k = l.length := by omega
    subst this
    rw [List.take_length]
    repeat' (first | ((with_reducible refine gRc ?_); refine AW_freeze [2] (id := 2000) ⟨rfl, trivial⟩ rfl rfl ?_) | ((with_reducible refine gA ?_); (first | refine AW_seq ?_ | refine AW_region ?_ | (refine AW_cond rfl (fun hc => ?_) (fun hc => ?_) <;> try (exfalso; simp only [cmpL] at hc; omega)) | refine AW_ret ?_ | refine AW_exit ?_)) | ((with_reducible refine gS ?_); refine Es_s (T := Tryd.tab) rfl rfl rfl rfl ?_) | (with_reducible refine Es_nil ?_) | (with_reducible refine then_n ?_) | (with_reducible refine then_e ?_) | ((with_reducible refine block_e ?_ ?_); rfl) | ((with_reducible refine gR ?_); first | refine ret1 rfl ?_ | refine ret2 rfl rfl ?_ | refine ret0 ?_ | refine end1 rfl ?_ | refine end0 ?_))
    exact ⟨rfl, rfl, trivial⟩

/-! ### slices.Clone, match.copyPost, match.pick -/
set_option maxRecDepth 10000 in
theorem copyPost_ac (p : Post) (hp : p.entries.length ≤ 1048576) : AC Tryd.prog 30 [.agg p.cs] [] [] (fun r _ => r = .agg p.cs) := by
  have cc := cloneE_ac p.entries hp
  refine AC_enterC Tryd.tab Tryd.func30 rfl Tryd.ntmps30 (a0 := 2) (t0 := 29) rfl rfl (by simp) (fun w X G => ?_)
  repeat' (first | ((with_reducible refine gA ?_); (first | refine AW_seq ?_ | refine AW_region ?_ | refine AW_ret ?_)) | ((with_reducible refine gS ?_); refine Es_s (T := Tryd.tab) rfl rfl rfl rfl ?_) | (((with_reducible refine gS ?_); apply Es_q); rfl; rfl; refine LStep_call (cc) rfl rfl rfl rfl) | (refine Es_skip rfl ?_ rfl ?_; (first | rfl | (refine w_tf ?_; assumption) | (refine w_ft ?_; assumption))) | (((with_reducible refine gS ?_); apply Es_xs); rfl; rfl; (first | refine LStep_boxN rfl rfl rfl rfl rfl rfl | refine LStep_allocN (T := Tryd.tab) rfl rfl rfl rfl rfl rfl); rfl) | (((with_reducible refine gS ?_); apply Es_xn); rfl; rfl; (refine LStep_storeN (T := Tryd.tab) rfl rfl rfl rfl rfl rfl rfl ?_ rfl; (refine Nat.le_of_ble_eq_true ?_; rfl)); rfl) | (with_reducible refine Es_nil ?_) | (with_reducible refine then_n ?_) | ((with_reducible refine gC ?_); first | refine retC1 rfl ?_ | refine endC1 rfl ?_))
  rfl
def hM (es : List (Value × AV)) : Hp := [(1000, some (.map 3 29 es none)), (1001, some (.cells [.mp 1000]))]
theorem filter_snoc {α : Type} {q : α → Bool} {l : List α} {k : Nat} {x : α} (h : l[k]? = some x) : (l.take (k + 1)).filter q = (l.take k).filter q ++ (if q x = true then [x] else []) := by
  rw [take_at h, List.filter_append]
  cases hq : q x <;> simp [hq]
theorem filter_le {α : Type} {q : α → Bool} (l : List α) (k : Nat) : ((l.take k).filter q).length ≤ l.length := by
  have := List.length_filter_le q (l.take k)
  rw [List.length_take] at this
  omega
set_option maxRecDepth 10000 in
set_option maxHeartbeats 2000000 in
theorem pick_ac (es : List (Value × AV)) (l : List Post) (f : FuncId) (q : Post → Bool) (hl : l.length ≤ 1048576) (he : ∀ p ∈ l, p.entries.length ≤ 1048576)
    (hf : ∀ p ∈ l, AC Tryd.prog f [.agg p.cs, .ptr 1001 0] (hM es) [1000, 1001] (fun r h' => r = .d (.sc (.bool (q p))) ∧ Kp (hM es) h')) :
    AC Tryd.prog 20 [.d (.sl 3 (l.map Post.enc)), .fn f [.ptr 1001 0]] (hM es) [1000, 1001] (fun r h' => r = .d (.sl 3 ((l.filter q).map Post.enc)) ∧ Kp (hM es) h') := by
  refine AC_enter Tryd.func20 rfl Tryd.ntmps20 (rv := [.tmp 4]) rfl rfl (by simp) (fun w X G => ?_)
  repeat' (first | ((with_reducible refine gA ?_); (first | refine AW_seq ?_ | refine AW_region ?_ | refine AW_block ?_)) | ((with_reducible refine gS ?_); refine Es_s (T := Tryd.tab) rfl rfl rfl rfl ?_) | (((with_reducible refine gS ?_); apply Es_q); rfl; rfl; refine LStep_lenM (T := Tryd.tab) rfl rfl rfl rfl) | (with_reducible refine Es_nil ?_) | (with_reducible refine then_n ?_))
  refine AW_openNil (t := 5) (id := 2000) (e := 29) (sz := 3) rfl rfl rfl rfl ?_
  refine AW_forE (S := Nat) (fun k => k ≤ l.length) (fun k => [(10, .d (.sc (.int .i64 (k : Nat)))), (5, .own 2000 (((l.take k).filter q).map Post.enc).length)]) (fun k => [(2000, some (.arr 29 3 (((l.take k).filter q).map Post.enc)))]) (fun k => l.length - k) 0 (by omega) (by (repeat' (first | exact trivial | exact rfl | (refine ⟨Or.inl rfl, ?_⟩) | (refine ⟨Or.inr rfl, ?_⟩) | (refine ⟨Or.inr trivial, ?_⟩) | (refine ⟨rfl, ?_⟩) | (refine ⟨?_, ?_⟩)))) (by (repeat' (first | exact trivial | exact rfl | (refine ⟨Or.inl rfl, ?_⟩) | (refine ⟨Or.inr rfl, ?_⟩) | (refine ⟨Or.inr trivial, ?_⟩) | (refine ⟨rfl, ?_⟩) | (refine ⟨?_, ?_⟩)))) ?_
  intro k hk
  by_cases hlt : k < l.length
  · obtain ⟨p, hp, _⟩ := drop_at hlt
    have hfx := hf p (List.mem_of_getElem? hp)
    have ht := filter_snoc (q := q) hp
    have hln := filter_le (q := q) l k
    have cc := copyPost_ac p (he p (List.mem_of_getElem? hp))
    repeat' (first | ((with_reducible refine gA ?_); (first | refine AW_seq ?_ | refine AW_region ?_ | (refine AW_cond rfl (fun hc => ?_) (fun hc => ?_) <;> try (exfalso; simp only [cmpL] at hc; omega)) | refine AW_block ?_ | refine AW_skip ?_)) | ((with_reducible refine gS ?_); refine Es_s (T := Tryd.tab) rfl rfl rfl rfl ?_) | (((with_reducible refine gS ?_); apply Es_q); rfl; rfl; (first | refine LStep_callB hfx rfl rfl ⟨rfl, rfl, trivial⟩ rfl rfl | refine LStep_call (cc) rfl rfl rfl rfl)) | (((with_reducible refine gS ?_); apply Es_xs); rfl; rfl; (refine LStep_append (T := Tryd.tab) rfl rfl rfl rfl rfl rfl rfl rfl rfl rfl ?_ ?_ ?_; rfl; (rw [List.length_map]; simp only [List.length_cons, List.length_nil]; omega); (unfold maxLen; rw [List.length_map]; simp only [List.length_cons, List.length_nil]; omega)); rfl) | (((with_reducible refine gS ?_); apply Es_q); rfl; rfl; (first | (refine LStep_add rfl rfl rfl rfl ?_; (refine IntWalk.i64_in _ ?_; first | omega | (simp only [cmps] at *; omega))) | (refine LStep_indexM (T := Tryd.tab) (c := ?_) rfl rfl rfl rfl rfl rfl ?_; rotate_left; assumption) | (refine LStep_lit (T := Tryd.tab) rfl rfl rfl rfl rfl rfl rfl rfl ?_; (refine Nat.le_of_ble_eq_true ?_; rfl)))) | (refine Es_skip rfl ?_ rfl ?_; (first | rfl | (refine w_tf ?_; assumption) | (refine w_ft ?_; assumption))) | (((with_reducible refine gS ?_); apply Es_xs); rfl; rfl; refine LStep_allocN (T := Tryd.tab) rfl rfl rfl rfl rfl rfl; rfl) | (((with_reducible refine gS ?_); apply Es_xn); rfl; rfl; (refine LStep_storeN (T := Tryd.tab) rfl rfl rfl rfl rfl rfl rfl ?_ rfl; (refine Nat.le_of_ble_eq_true ?_; rfl)); rfl) | (with_reducible refine Es_nil ?_) | (with_reducible refine then_n ?_) | (with_reducible refine block_n ?_))
    · have h : q p = true := by assumption
      rw [if_pos h] at ht
      refine ⟨k + 1, by omega, by omega, ?_, by (repeat' (first | exact trivial | exact rfl | (refine ⟨Or.inl rfl, ?_⟩) | (refine ⟨Or.inr rfl, ?_⟩) | (refine ⟨Or.inr trivial, ?_⟩) | (refine ⟨rfl, ?_⟩) | (refine ⟨?_, ?_⟩))), ?_, by (repeat' (first | exact trivial | exact rfl | (refine ⟨Or.inl rfl, ?_⟩) | (refine ⟨Or.inr rfl, ?_⟩) | (refine ⟨Or.inr trivial, ?_⟩) | (refine ⟨rfl, ?_⟩) | (refine ⟨?_, ?_⟩)))⟩
      all_goals (rw [ht, List.map_append]; (repeat' (first | exact trivial | exact rfl | (refine ⟨Or.inl rfl, ?_⟩) | (refine ⟨Or.inr rfl, ?_⟩) | (refine ⟨Or.inr trivial, ?_⟩) | (refine ⟨rfl, ?_⟩) | (refine ⟨?_, ?_⟩))))
    · have h : ¬ q p = true := by have : q p = false := by assumption
                                  simp [this]
      rw [if_neg h, List.append_nil] at ht
      refine ⟨k + 1, by omega, by omega, ?_, by (repeat' (first | exact trivial | exact rfl | (refine ⟨Or.inl rfl, ?_⟩) | (refine ⟨Or.inr rfl, ?_⟩) | (refine ⟨Or.inr trivial, ?_⟩) | (refine ⟨rfl, ?_⟩) | (refine ⟨?_, ?_⟩))), ?_, by (repeat' (first | exact trivial | exact rfl | (refine ⟨Or.inl rfl, ?_⟩) | (refine ⟨Or.inr rfl, ?_⟩) | (refine ⟨Or.inr trivial, ?_⟩) | (refine ⟨rfl, ?_⟩) | (refine ⟨?_, ?_⟩)))⟩
      all_goals (rw [ht]; (repeat' (first | exact trivial | exact rfl | (refine ⟨Or.inl rfl, ?_⟩) | (refine ⟨Or.inr rfl, ?_⟩) | (refine ⟨Or.inr trivial, ?_⟩) | (refine ⟨rfl, ?_⟩) | (refine ⟨?_, ?_⟩))))
  · have : k = l.length := by omega
    subst this
    rw [List.take_length]
    repeat' (first | ((with_reducible refine gRc ?_); refine AW_freeze [4] (id := 2000) ⟨rfl, trivial⟩ rfl rfl ?_) | ((with_reducible refine gA ?_); (first | refine AW_seq ?_ | refine AW_region ?_ | (refine AW_cond rfl (fun hc => ?_) (fun hc => ?_) <;> try (exfalso; simp only [cmpL] at hc; omega)) | refine AW_ret ?_ | refine AW_exit ?_)) | ((with_reducible refine gS ?_); refine Es_s (T := Tryd.tab) rfl rfl rfl rfl ?_) | (with_reducible refine Es_nil ?_) | (with_reducible refine then_n ?_) | (with_reducible refine then_e ?_) | ((with_reducible refine block_e ?_ ?_); rfl) | ((with_reducible refine gR ?_); first | refine ret1 rfl ?_ | refine ret2 rfl rfl ?_ | refine ret0 ?_ | refine end1 rfl ?_ | refine end0 ?_))
    exact ⟨rfl, Kp.sub ⟨rfl, rfl, trivial⟩⟩
set_option maxRecDepth 10000 in
set_option maxHeartbeats 2000000 in
theorem pick0_ac (l : List Post) (hl : l.length ≤ 1048576) (he : ∀ p ∈ l, p.entries.length ≤ 1048576) (hf : ∀ p ∈ l, AC Tryd.prog 21 [.agg p.cs] [] [] (fun r _ => r = .d (.sc (.bool true)))) :
    AC Tryd.prog 20 [.d (.sl 3 (l.map Post.enc)), .fn 21 []] [] [] (fun r h' => r = .own 2000 (l.map Post.enc).length ∧ SubH [(2000, some (.arr 29 3 (l.map Post.enc)))] h') := by
  refine AC_enter Tryd.func20 rfl Tryd.ntmps20 (rv := [.tmp 4]) rfl rfl (by simp) (fun w X G => ?_)
  repeat' (first | ((with_reducible refine gA ?_); (first | refine AW_seq ?_ | refine AW_region ?_ | refine AW_block ?_)) | ((with_reducible refine gS ?_); refine Es_s (T := Tryd.tab) rfl rfl rfl rfl ?_) | (((with_reducible refine gS ?_); apply Es_q); rfl; rfl; refine LStep_lenM (T := Tryd.tab) rfl rfl rfl rfl) | (with_reducible refine Es_nil ?_) | (with_reducible refine then_n ?_))
  refine AW_openNil (t := 5) (id := 2000) (e := 29) (sz := 3) rfl rfl rfl rfl ?_
  refine AW_forE (S := Nat) (fun k => k ≤ l.length) (fun k => [(10, .d (.sc (.int .i64 (k : Nat)))), (5, .own 2000 ((l.take k).map Post.enc).length)]) (fun k => [(2000, some (.arr 29 3 ((l.take k).map Post.enc)))]) (fun k => l.length - k) 0 (by omega) (by (repeat' (first | exact trivial | exact rfl | (refine ⟨Or.inl rfl, ?_⟩) | (refine ⟨Or.inr rfl, ?_⟩) | (refine ⟨Or.inr trivial, ?_⟩) | (refine ⟨rfl, ?_⟩) | (refine ⟨?_, ?_⟩)))) (by (repeat' (first | exact trivial | exact rfl | (refine ⟨Or.inl rfl, ?_⟩) | (refine ⟨Or.inr rfl, ?_⟩) | (refine ⟨Or.inr trivial, ?_⟩) | (refine ⟨rfl, ?_⟩) | (refine ⟨?_, ?_⟩)))) ?_
  intro k hk
  by_cases hlt : k < l.length
  · obtain ⟨p, hp, _⟩ := drop_at hlt
    have hfx := (hf p (List.mem_of_getElem? hp)).mono (R' := fun r h' => r = .d (.sc (.bool true)) ∧ Kp [] h') (fun _ _ h => ⟨h, fun _ _ h => by simp [hget] at h⟩)
    have ht : (l.take (k + 1)) = l.take k ++ [p] := take_at hp
    have hln : (l.take k).length ≤ l.length := by rw [List.length_take]; omega
    have cc := copyPost_ac p (he p (List.mem_of_getElem? hp))
    repeat' (first | ((with_reducible refine gA ?_); (first | refine AW_seq ?_ | refine AW_region ?_ | refine AW_condT rfl ?_ | (refine AW_cond rfl (fun hc => ?_) (fun hc => ?_) <;> try (exfalso; simp only [cmpL] at hc; omega)) | refine AW_block ?_ | refine AW_skip ?_)) | ((with_reducible refine gS ?_); refine Es_s (T := Tryd.tab) rfl rfl rfl rfl ?_) | (((with_reducible refine gS ?_); apply Es_q); rfl; rfl; (first | refine LStep_callB hfx rfl rfl trivial rfl rfl | refine LStep_call (cc) rfl rfl rfl rfl)) | (((with_reducible refine gS ?_); apply Es_xs); rfl; rfl; (refine LStep_append (T := Tryd.tab) rfl rfl rfl rfl rfl rfl rfl rfl rfl rfl ?_ ?_ ?_; rfl; (rw [List.length_map]; simp only [List.length_cons, List.length_nil]; omega); (unfold maxLen; rw [List.length_map]; simp only [List.length_cons, List.length_nil]; omega)); rfl) | (((with_reducible refine gS ?_); apply Es_q); rfl; rfl; (first | (refine LStep_add rfl rfl rfl rfl ?_; (refine IntWalk.i64_in _ ?_; first | omega | (simp only [cmps] at *; omega))) | (refine LStep_indexM (T := Tryd.tab) (c := ?_) rfl rfl rfl rfl rfl rfl ?_; rotate_left; assumption) | (refine LStep_lit (T := Tryd.tab) rfl rfl rfl rfl rfl rfl rfl rfl ?_; (refine Nat.le_of_ble_eq_true ?_; rfl)))) | (refine Es_skip rfl ?_ rfl ?_; (first | rfl | (refine w_tf ?_; assumption) | (refine w_ft ?_; assumption))) | (((with_reducible refine gS ?_); apply Es_xs); rfl; rfl; refine LStep_allocN (T := Tryd.tab) rfl rfl rfl rfl rfl rfl; rfl) | (((with_reducible refine gS ?_); apply Es_xn); rfl; rfl; (refine LStep_storeN (T := Tryd.tab) rfl rfl rfl rfl rfl rfl rfl ?_ rfl; (refine Nat.le_of_ble_eq_true ?_; rfl)); rfl) | (with_reducible refine Es_nil ?_) | (with_reducible refine then_n ?_) | (with_reducible refine block_n ?_))
    refine ⟨k + 1, by omega, by omega, ?_, by (repeat' (first | exact trivial | exact rfl | (refine ⟨Or.inl rfl, ?_⟩) | (refine ⟨Or.inr rfl, ?_⟩) | (refine ⟨Or.inr trivial, ?_⟩) | (refine ⟨rfl, ?_⟩) | (refine ⟨?_, ?_⟩))), ?_, by (repeat' (first | exact trivial | exact rfl | (refine ⟨Or.inl rfl, ?_⟩) | (refine ⟨Or.inr rfl, ?_⟩) | (refine ⟨Or.inr trivial, ?_⟩) | (refine ⟨rfl, ?_⟩) | (refine ⟨?_, ?_⟩)))⟩
    all_goals (rw [ht, List.map_append]; (repeat' (first | exact trivial | exact rfl | (refine ⟨Or.inl rfl, ?_⟩) | (refine ⟨Or.inr rfl, ?_⟩) | (refine ⟨Or.inr trivial, ?_⟩) | (refine ⟨rfl, ?_⟩) | (refine ⟨?_, ?_⟩))))
  · have : k = l.length := by omega
    subst this
    rw [List.take_length]
    repeat' (first | ((with_reducible refine gA ?_); (first | refine AW_seq ?_ | refine AW_region ?_ | (refine AW_cond rfl (fun hc => ?_) (fun hc => ?_) <;> try (exfalso; simp only [cmpL] at hc; omega)) | refine AW_ret ?_ | refine AW_exit ?_)) | ((with_reducible refine gS ?_); refine Es_s (T := Tryd.tab) rfl rfl rfl rfl ?_) | (with_reducible refine Es_nil ?_) | (with_reducible refine then_n ?_) | (with_reducible refine then_e ?_) | ((with_reducible refine block_e ?_ ?_); rfl) | ((with_reducible refine gR ?_); first | refine ret1 rfl ?_ | refine ret2 rfl rfl ?_ | refine ret0 ?_ | refine end1 rfl ?_ | refine end0 ?_))
    exact ⟨rfl, rfl, trivial⟩
end Go.Proofs.YtglkilmflohfoaaDoor
