import Derived.Test.YtldfncafkdmoiaaFH
namespace Go.Proofs.Ytldfncafkdmoiaa
open Go.SL
/-! ### share.Split: plain -/
def fillV (l : List Nat) (i : Nat) : List Nat := l.take i ++ List.replicate (l.length - i) 0
theorem fillV_len {l : List Nat} {i : Nat} (h : i ≤ l.length) : (fillV l i).length = l.length := by
  unfold fillV
  rw [List.length_append, List.length_take, List.length_replicate]
  omega
theorem fillV_at {l : List Nat} {i : Nat} (h : i < l.length) : (fillV l i)[i]? = some 0 := by
  unfold fillV
  rw [List.getElem?_append_right (by rw [List.length_take]; omega), List.getElem?_replicate, List.length_take, if_pos (by omega)]
theorem fillV_set {l : List Nat} {i v : Nat} (h : l[i]? = some v) : (fillV l i).set i v = fillV l (i + 1) := by
  have hlt := (List.getElem?_eq_some_iff.1 h).1
  unfold fillV
  rw [List.set_append_right _ _ (by rw [List.length_take]; omega), show i - (l.take i).length = 0 by rw [List.length_take]; omega, take_at h, show l.length - i = (l.length - (i + 1)) + 1 by omega, List.replicate_succ, List.set_cons_zero, List.append_assoc]
  rfl
theorem fillV_zero (l : List Nat) : fillV l 0 = List.replicate l.length 0 := by unfold fillV; simp
theorem fillV_all (l : List Nat) : fillV l l.length = l := by unfold fillV; simp
def shQ (t s : Nat) (ws : List Nat) : List Nat := ws.map fun w => t * w / s
def shR (t s : Nat) (ws : List Nat) : List Nat := ws.map fun w => t * w % s
def cmpR (rs : List Nat) (i j : Nat) : Int := cI ((rs.getD j 0 : Nat) : Int) ((rs.getD i 0 : Nat) : Int)
theorem ltR (rs : List Nat) (i j : Nat) : ltOf (cmpR rs) i j = decide (rs.getD j 0 < rs.getD i 0) := by
  rw [Bool.eq_iff_iff]
  unfold ltOf cmpR cI
  rw [decide_eq_true_eq, decide_eq_true_eq]
  split
  · constructor <;> intro _ <;> omega
  · split
    · constructor <;> intro _ <;> omega
    · constructor <;> intro _ <;> omega
theorem swoR (rs : List Nat) : Sort.SWO (ltOf (cmpR rs)) := by
  refine ⟨fun x => ?_, fun x y z => ?_, fun x y z => ?_⟩
  · rw [ltR, decide_eq_false_iff_not]; omega
  · rw [ltR, ltR, ltR, decide_eq_true_eq, decide_eq_true_eq, decide_eq_true_eq]; omega
  · rw [ltR, ltR, ltR, decide_eq_false_iff_not, decide_eq_false_iff_not, decide_eq_false_iff_not]; omega
def ordR (rs : List Nat) : List Nat := isL (ltOf (cmpR rs)) (List.range rs.length)
def bump (ps : List Nat) (l : List Nat) : List Nat := l.foldl (fun ps i => ps.set i (ps.getD i 0 + 1)) ps
def splitN (t : Nat) (ws : List Nat) : List Nat :=
  if t = 0 then List.replicate ws.length 0
  else bump (shQ t ws.sum ws) ((ordR (shR t ws.sum ws)).take (t - (shQ t ws.sum ws).sum))
theorem bump_len (l : List Nat) : ∀ ps : List Nat, (bump ps l).length = ps.length := by
  induction l with
  | nil => intro ps; rfl
  | cons i l ih =>
    intro ps
    show (bump _ l).length = _
    rw [ih, List.length_set]
theorem shQ_sum {t s : Nat} (hs : 0 < s) : ∀ ws : List Nat, (shQ t s ws).sum * s + (shR t s ws).sum = t * ws.sum
  | [] => by simp [shQ, shR]
  | w :: ws => by
    have ih := shQ_sum (t := t) hs ws
    unfold shQ shR at *
    simp only [List.map_cons, List.sum_cons]
    have h := Nat.div_add_mod (t * w) s
    rw [Nat.add_mul, Nat.mul_add, Nat.mul_comm (t * w / s) s]
    omega
theorem shR_le {t s : Nat} (hs : 0 < s) : ∀ ws : List Nat, (shR t s ws).sum + ws.length ≤ ws.length * s
  | [] => by simp [shR]
  | w :: ws => by
    have ih := shR_le (t := t) hs ws
    unfold shR at *
    simp only [List.map_cons, List.sum_cons, List.length_cons]
    have h := Nat.mod_lt (t * w) hs
    rw [Nat.add_mul]
    omega
theorem shQ_le {t s : Nat} {ws : List Nat} (hs : 0 < s) (h : ws.sum = s) : (shQ t s ws).sum ≤ t := by
  have h1 := shQ_sum (t := t) hs ws
  rw [h] at h1
  have : (shQ t s ws).sum * s ≤ t * s := by omega
  exact Nat.le_of_mul_le_mul_right this hs
theorem left_le {t s : Nat} {ws : List Nat} (hs : 0 < s) (h : ws.sum = s) : t - (shQ t s ws).sum ≤ ws.length := by
  have h1 := shQ_sum (t := t) hs ws
  have h2 := shR_le (t := t) hs ws
  rw [h] at h1
  have h3 : t * s ≤ ((shQ t s ws).sum + ws.length) * s := by rw [Nat.add_mul]; omega
  have := Nat.le_of_mul_le_mul_right h3 hs
  omega
theorem sum_take_le (l : List Nat) (i : Nat) : (l.take i).sum ≤ l.sum := by
  have h := List.sum_append_nat (l₁ := l.take i) (l₂ := l.drop i)
  rw [List.take_append_drop] at h
  omega
theorem sum_take_at {l : List Nat} {i v : Nat} (h : l[i]? = some v) : (l.take (i + 1)).sum = (l.take i).sum + v := by
  rw [take_at h, List.sum_append_nat]
  simp
theorem mem_le_sum {l : List Nat} {v : Nat} (h : v ∈ l) : v ≤ l.sum := by
  induction l with
  | nil => cases h
  | cons x l ih =>
    rw [List.sum_cons]
    rcases List.mem_cons.1 h with q | q
    · omega
    · have := ih q; omega
theorem sum_le (l : List Nat) (B : Nat) (h : ∀ x ∈ l, x ≤ B) : l.sum ≤ l.length * B := by
  induction l with
  | nil => simp
  | cons x l ih =>
    have h1 := h x List.mem_cons_self
    have h2 := ih (fun y hy => h y (List.mem_cons_of_mem _ hy))
    rw [List.sum_cons, List.length_cons, Nat.add_mul]
    omega
/-! ### the callback -/
set_option maxRecDepth 10000 in
theorem isNaNU_ac (a : Int) : AC Try.prog 80 [.d (.sc (.int .u64 a))] [] [] (fun r _ => r = .d (.sc (.bool false))) := by
  refine AC_enter Try.func80 rfl Try.ntmps80 (rv := [.tmp 2]) rfl rfl (by simp) (fun w X G => ?_)
  have h : (!eqb a a) = false := by rw [not_f]; exact eqb_t.2 rfl
  repeat' (first | ((with_reducible refine gA ?_); (first | refine AW_seq ?_ | refine AW_region ?_ | refine AW_ret ?_)) | ((with_reducible refine gS ?_); refine Es_s (T := Try.tab) rfl rfl rfl rfl ?_) | (with_reducible refine Es_nil ?_) | (with_reducible refine then_n ?_) | ((with_reducible refine gR ?_); first | refine ret1 rfl ?_ | refine ret2 rfl rfl ?_ | refine ret0 ?_ | refine end1 rfl ?_ | refine end0 ?_))
  rw [h]
set_option maxRecDepth 10000 in
theorem cmpU_ac (a b : Int) : AC Try.prog 53 [.d (.sc (.int .u64 a)), .d (.sc (.int .u64 b))] [] [] (fun r _ => r = .d (.sc (.int .i64 (cI a b)))) := by
  refine AC_enter Try.func53 rfl Try.ntmps53 (rv := [.tmp 4]) rfl rfl (by simp) (fun w X G => ?_)
  repeat' (first | ((with_reducible refine gA ?_); (first | refine AW_seq ?_ | refine AW_region ?_ | refine AW_condF rfl ?_ | (refine AW_cond rfl (fun hc => ?_) (fun hc => ?_) <;> try (exfalso; simp only [cmpL] at hc; omega)) | refine AW_ret ?_ | refine AW_skip ?_)) | ((with_reducible refine gS ?_); refine Es_s (T := Try.tab) rfl rfl rfl rfl ?_) | (((with_reducible refine gS ?_); apply Es_q); rfl; rfl; refine LStep_call (isNaNU_ac _) rfl rfl rfl rfl) | (with_reducible refine Es_nil ?_) | (with_reducible refine then_n ?_) | (with_reducible refine then_r ?_) | ((with_reducible refine gR ?_); first | refine ret1 rfl ?_ | refine ret2 rfl rfl ?_ | refine ret0 ?_ | refine end1 rfl ?_ | refine end0 ?_))
  all_goals simp only [cmps] at *
  all_goals first
    | (unfold cI; rw [if_pos (by omega)]; done)
    | (unfold cI; rw [if_neg (by omega), if_pos (by omega)]; done)
    | (unfold cI; rw [if_neg (by omega), if_neg (by omega)]; done)
    | trace_state
theorem getD_at {l : List Nat} {i v : Nat} (h : l[i]? = some v) : l.getD i 0 = v := by rw [List.getD_eq_getElem?_getD, h]; rfl
set_option maxRecDepth 10000 in
theorem cbR_ac (rs : List Nat) (n : Nat) (hn : rs.length = n) {i j : Nat} (hi : i < n) (hj : j < n) : cbN 52 (cmpR rs) n 80 (rs.map nU) i j := by
  obtain ⟨a, ha⟩ : ∃ a, rs[i]? = some a := ⟨_, List.getElem?_eq_getElem (by omega)⟩
  obtain ⟨b, hb⟩ : ∃ b, rs[j]? = some b := ⟨_, List.getElem?_eq_getElem (by omega)⟩
  unfold cbN cmpR HR
  rw [getD_at ha, getD_at hb]
  have cc := cmpU_ac ((b : Nat) : Int) ((a : Nat) : Int)
  generalize cI ((b : Nat) : Int) ((a : Nat) : Int) = v at *
  refine AC_enter Try.func52 rfl Try.ntmps52 (rv := [.tmp 5]) rfl rfl (by simp) (fun w X G => ?_)
  repeat' (first | ((with_reducible refine gA ?_); (first | refine AW_seq ?_ | refine AW_region ?_ | refine AW_regionD Try.mixed ?_ | refine AW_ret ?_)) | (first | ((with_reducible refine gS ?_); refine Es_s (T := Try.tab) rfl rfl rfl rfl ?_) | ((with_reducible refine gD ?_); refine Ed_s (T := Try.tab) rfl rfl rfl rfl ?_)) | (((with_reducible refine gD ?_); apply Ed_q); rfl; rfl; (first | refine LStep_call (cc) rfl rfl rfl rfl | (refine LStep_indexOwnM (T := Try.tab) rfl rfl rfl rfl rfl rfl rfl ?_ ?_; (rw [List.length_map]; omega); (rw [List.length_map]; omega)) | (refine LStep_loadEM (T := Try.tab) rfl rfl rfl rfl rfl ?_ ha rfl; (rw [List.length_map]; omega)) | (refine LStep_loadEM (T := Try.tab) rfl rfl rfl rfl rfl ?_ hb rfl; (rw [List.length_map]; omega)))) | (with_reducible refine Es_nil ?_) | ((with_reducible refine Ed_nil ?_ ?_); kernel_rfl) | (with_reducible refine then_n ?_) | ((with_reducible refine gR ?_); first | refine ret1 rfl ?_ | refine ret2 rfl rfl ?_ | refine ret0 ?_ | refine end1 rfl ?_ | refine end0 ?_))
  all_goals first
    | exact ⟨rfl, Kp.sub ⟨rfl, rfl, trivial⟩⟩
    | trace_state
/-- the sort that share.Split asks for -/
def srtR (rs : List Nat) (n : Nat) : Prop :=
  AC Try.prog 51 [.own 1000 n, .fn 52 [.ptr 1100 0]] (H3 [.own 1101 n] 80 (rs.map nU) (List.range n)) [1000, 1100, 1101] (fun r h' => r = .tup [] ∧ SubH (H3 [.own 1101 n] 80 (rs.map nU) (isL (ltOf (cmpR rs)) (List.range n))) h')
theorem srtR20 (rs : List Nat) (n : Nat) (hn : rs.length = n) (h : n ≤ 20) : srtR rs n :=
  sortN_ac n (List.range n) List.length_range h n (fun _ hx _ hy => cbR_ac rs n hn (List.mem_range.1 hx) (List.mem_range.1 hy)) (swoR rs)
end Go.Proofs.Ytldfncafkdmoiaa
