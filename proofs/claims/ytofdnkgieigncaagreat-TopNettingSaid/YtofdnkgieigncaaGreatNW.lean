import Derived.Test.YtofdnkgieigncaaGreatNV
namespace Go.Proofs.YtofdnkgieigncaaGreat
open Go.SL
section
variable {P : Program} {T : Tab P} {O : Org} {env : Env} {h : Hp} {o : Oper}
/-- a slice that holds something is not nil -/
theorem LStep_neqNilS {tt e yt sz : Nat} {x : Operand} {es : List (List D)} (ho : o.op = .binOp .neq tt x (.const (.slice none 0 0)) yt) (hd : dstOk o.dst O.nt = true) (hT : T.desc tt = some (.slice e)) (hx : evalA env x = .d (.sl sz es)) (hne : es ≠ []) :
    LStep P O o env h [] [] (.d (.sc (.bool true))) [] := by
  refine .quiet hd (fun env' h' he _ a w G r => ⟨.bool true, ?_, .d _ _ (.sc _ rfl)⟩)
  have h1 := evalA_rep r.env x
  rw [he x (by simp [ho, Op.operands]), hx] at h1
  generalize hv : a.eval x = v at h1
  cases h1 with
  | d _ _ h1 =>
    cases h1 with
    | sl _ _ A n c b off vs hnn hcap hA hsz hcell hrep =>
      have hy : a.eval (.const (.slice none 0 0)) = .slice none 0 0 := rfl
      have hp : 0 < n := by
        rw [← hnn]
        exact List.length_pos_iff.2 hne
      obtain ⟨e1, _⟩ := hA hp
      subst e1
      simp [execOp, ho, hv, hy, eqGuard, binOp, run_eqlNil (P := P) (T.desc_ok hT) w _ n c]
theorem LStep_neqNil0 {tt e yt : Nat} {x : Operand} (ho : o.op = .binOp .neq tt x (.const (.slice none 0 0)) yt) (hd : dstOk o.dst O.nt = true) (hT : T.desc tt = some (.slice e)) (hx : evalA env x = .d (.sc (.slice none 0 0))) :
    LStep P O o env h [] [] (.d (.sc (.bool false))) [] := by
  refine .quiet hd (fun env' h' he _ a w G r => ⟨.bool false, ?_, .d _ _ (.sc _ rfl)⟩)
  have h1 := evalA_rep r.env x
  rw [he x (by simp [ho, Op.operands]), hx] at h1
  have hv := h1.sc_inv
  have hy : a.eval (.const (.slice none 0 0)) = .slice none 0 0 := rfl
  simp [execOp, ho, hv, hy, eqGuard, binOp, run_eqlNil (P := P) (T.desc_ok hT) w none 0 0]
end
/-! ### rows of numbers -/
def iN (n : Nat) : List D := [.sc (.int .i64 (n : Int))]
set_option maxRecDepth 10000 in
theorem indexI_ac (l : List Nat) (x : Nat) (hl : l.length ≤ 140737488351232) : AC Tryz.prog 195 [.d (.sl 1 (l.map iN)), .d (.sc (.int .i64 (x : Nat)))] [] [] (fun r _ => r = .d (.sc (.int .i64 (idxG (fun y : Nat => eqb (x : Int) (y : Int)) l 0)))) := by
  refine AC_enter Tryz.func195 rfl Tryz.ntmps195 (rv := [.tmp 4]) rfl rfl (by simp) (fun w X G => ?_)
  repeat' (first | ((with_reducible refine gA ?_); (first | refine AW_seq ?_ | refine AW_region ?_ | refine AW_block ?_)) | ((with_reducible refine gS ?_); refine Es_s (T := Tryz.tab) rfl rfl rfl rfl ?_) | (((with_reducible refine gS ?_); apply Es_q); rfl; rfl; refine LStep_lenM (T := Tryz.tab) rfl rfl rfl rfl) | (with_reducible refine Es_nil ?_) | (with_reducible refine then_n ?_))
  refine AW_forE (S := Nat) (fun k => k ≤ l.length ∧ idxG (fun y : Nat => eqb (x : Int) (y : Int)) l 0 = idxG (fun y : Nat => eqb (x : Int) (y : Int)) (l.drop k) k) (fun k => [(8, .d (.sc (.int .i64 (k : Nat))))]) (fun _ => []) (fun k => l.length - k) 0 ⟨by omega, rfl⟩ (by (repeat' (first | exact trivial | exact rfl | (refine ⟨Or.inl rfl, ?_⟩) | (refine ⟨Or.inr rfl, ?_⟩) | (refine ⟨Or.inr trivial, ?_⟩) | (refine ⟨rfl, ?_⟩) | (refine ⟨?_, ?_⟩)))) (by (repeat' (first | exact trivial | exact rfl | (refine ⟨Or.inl rfl, ?_⟩) | (refine ⟨Or.inr rfl, ?_⟩) | (refine ⟨Or.inr trivial, ?_⟩) | (refine ⟨rfl, ?_⟩) | (refine ⟨?_, ?_⟩)))) ?_
  intro k ⟨hk, hg⟩
  by_cases hlt : k < l.length
  · obtain ⟨y, hy, hd⟩ := drop_at hlt
    rw [hd, idxG] at hg
    repeat' (first | ((with_reducible refine gA ?_); (first | refine AW_seq ?_ | refine AW_region ?_ | (refine AW_cond rfl (fun hc => ?_) (fun hc => ?_) <;> try (exfalso; simp only [cmpL] at hc; omega)) | refine AW_block ?_ | refine AW_ret ?_ | refine AW_skip ?_)) | ((with_reducible refine gS ?_); refine Es_s (T := Tryz.tab) rfl rfl rfl rfl ?_) | (((with_reducible refine gS ?_); apply Es_q); rfl; rfl; (first | (refine LStep_add rfl rfl rfl rfl ?_; (refine IntWalk.i64_in _ ?_; first | omega | (simp only [cmps] at *; omega))) | (refine LStep_indexM (T := Tryz.tab) (c := ?_) rfl rfl rfl rfl rfl rfl ?_; rotate_left; assumption))) | (with_reducible refine Es_nil ?_) | (with_reducible refine then_n ?_) | (with_reducible refine then_r ?_) | (with_reducible refine block_n ?_) | (with_reducible refine block_r ?_) | ((with_reducible refine gR ?_); first | refine ret1 rfl ?_ | refine ret2 rfl rfl ?_ | refine ret0 ?_ | refine end1 rfl ?_ | refine end0 ?_))
    · have h : eqb (x : Int) (y : Int) = true := by assumption
      rw [hg, if_pos h]
    · have h : eqb (x : Int) (y : Int) = false := by assumption
      refine ⟨k + 1, ?_, by omega, by (repeat' (first | exact trivial | exact rfl | (refine ⟨Or.inl rfl, ?_⟩) | (refine ⟨Or.inr rfl, ?_⟩) | (refine ⟨Or.inr trivial, ?_⟩) | (refine ⟨rfl, ?_⟩) | (refine ⟨?_, ?_⟩))), by (repeat' (first | exact trivial | exact rfl | (refine ⟨Or.inl rfl, ?_⟩) | (refine ⟨Or.inr rfl, ?_⟩) | (refine ⟨Or.inr trivial, ?_⟩) | (refine ⟨rfl, ?_⟩) | (refine ⟨?_, ?_⟩))), by (repeat' (first | exact trivial | exact rfl | (refine ⟨Or.inl rfl, ?_⟩) | (refine ⟨Or.inr rfl, ?_⟩) | (refine ⟨Or.inr trivial, ?_⟩) | (refine ⟨rfl, ?_⟩) | (refine ⟨?_, ?_⟩))), by (repeat' (first | exact trivial | exact rfl | (refine ⟨Or.inl rfl, ?_⟩) | (refine ⟨Or.inr rfl, ?_⟩) | (refine ⟨Or.inr trivial, ?_⟩) | (refine ⟨rfl, ?_⟩) | (refine ⟨?_, ?_⟩)))⟩; exact ⟨by omega, by rw [hg, if_neg (by simp [h])]⟩
  · have : k = l.length := by omega
    subst this
    repeat' (first | ((with_reducible refine gA ?_); (first | refine AW_seq ?_ | refine AW_region ?_ | (refine AW_cond rfl (fun hc => ?_) (fun hc => ?_) <;> try (exfalso; simp only [cmpL] at hc; omega)) | refine AW_ret ?_ | refine AW_exit ?_)) | ((with_reducible refine gS ?_); refine Es_s (T := Tryz.tab) rfl rfl rfl rfl ?_) | (with_reducible refine Es_nil ?_) | (with_reducible refine then_n ?_) | (with_reducible refine then_e ?_) | ((with_reducible refine block_e ?_ ?_); rfl) | ((with_reducible refine gR ?_); first | refine ret1 rfl ?_ | refine ret2 rfl rfl ?_ | refine ret0 ?_ | refine end1 rfl ?_ | refine end0 ?_))
    rw [hg, drop_end, idxG]
set_option maxRecDepth 10000 in
theorem indexS_ac (l : List ByteArray) (x : ByteArray) (hl : l.length ≤ 140737488351232) : AC Tryz.prog 56 [.d (.sl 1 (l.map sN)), .d (.sc (.string x))] [] [] (fun r _ => r = .d (.sc (.int .i64 (idxG (fun y : ByteArray => eqs x y) l 0)))) := by
  refine AC_enter Tryz.func56 rfl Tryz.ntmps56 (rv := [.tmp 4]) rfl rfl (by simp) (fun w X G => ?_)
  repeat' (first | ((with_reducible refine gA ?_); (first | refine AW_seq ?_ | refine AW_region ?_ | refine AW_block ?_)) | ((with_reducible refine gS ?_); refine Es_s (T := Tryz.tab) rfl rfl rfl rfl ?_) | (((with_reducible refine gS ?_); apply Es_q); rfl; rfl; refine LStep_lenM (T := Tryz.tab) rfl rfl rfl rfl) | (with_reducible refine Es_nil ?_) | (with_reducible refine then_n ?_))
  refine AW_forE (S := Nat) (fun k => k ≤ l.length ∧ idxG (fun y : ByteArray => eqs x y) l 0 = idxG (fun y : ByteArray => eqs x y) (l.drop k) k) (fun k => [(8, .d (.sc (.int .i64 (k : Nat))))]) (fun _ => []) (fun k => l.length - k) 0 ⟨by omega, rfl⟩ (by (repeat' (first | exact trivial | exact rfl | (refine ⟨Or.inl rfl, ?_⟩) | (refine ⟨Or.inr rfl, ?_⟩) | (refine ⟨Or.inr trivial, ?_⟩) | (refine ⟨rfl, ?_⟩) | (refine ⟨?_, ?_⟩)))) (by (repeat' (first | exact trivial | exact rfl | (refine ⟨Or.inl rfl, ?_⟩) | (refine ⟨Or.inr rfl, ?_⟩) | (refine ⟨Or.inr trivial, ?_⟩) | (refine ⟨rfl, ?_⟩) | (refine ⟨?_, ?_⟩)))) ?_
  intro k ⟨hk, hg⟩
  by_cases hlt : k < l.length
  · obtain ⟨y, hy, hd⟩ := drop_at hlt
    rw [hd, idxG] at hg
    repeat' (first | ((with_reducible refine gA ?_); (first | refine AW_seq ?_ | refine AW_region ?_ | (refine AW_cond rfl (fun hc => ?_) (fun hc => ?_) <;> try (exfalso; simp only [cmpL] at hc; omega)) | refine AW_block ?_ | refine AW_ret ?_ | refine AW_skip ?_)) | ((with_reducible refine gS ?_); refine Es_s (T := Tryz.tab) rfl rfl rfl rfl ?_) | (((with_reducible refine gS ?_); apply Es_q); rfl; rfl; (first | (refine LStep_add rfl rfl rfl rfl ?_; (refine IntWalk.i64_in _ ?_; first | omega | (simp only [cmps] at *; omega))) | (refine LStep_indexM (T := Tryz.tab) (c := ?_) rfl rfl rfl rfl rfl rfl ?_; rotate_left; assumption))) | (with_reducible refine Es_nil ?_) | (with_reducible refine then_n ?_) | (with_reducible refine then_r ?_) | (with_reducible refine block_n ?_) | (with_reducible refine block_r ?_) | ((with_reducible refine gR ?_); first | refine ret1 rfl ?_ | refine ret2 rfl rfl ?_ | refine ret0 ?_ | refine end1 rfl ?_ | refine end0 ?_))
    · have h : eqs x y = true := by assumption
      rw [hg, if_pos h]
    · have h : eqs x y = false := by assumption
      refine ⟨k + 1, ?_, by omega, by (repeat' (first | exact trivial | exact rfl | (refine ⟨Or.inl rfl, ?_⟩) | (refine ⟨Or.inr rfl, ?_⟩) | (refine ⟨Or.inr trivial, ?_⟩) | (refine ⟨rfl, ?_⟩) | (refine ⟨?_, ?_⟩))), by (repeat' (first | exact trivial | exact rfl | (refine ⟨Or.inl rfl, ?_⟩) | (refine ⟨Or.inr rfl, ?_⟩) | (refine ⟨Or.inr trivial, ?_⟩) | (refine ⟨rfl, ?_⟩) | (refine ⟨?_, ?_⟩))), by (repeat' (first | exact trivial | exact rfl | (refine ⟨Or.inl rfl, ?_⟩) | (refine ⟨Or.inr rfl, ?_⟩) | (refine ⟨Or.inr trivial, ?_⟩) | (refine ⟨rfl, ?_⟩) | (refine ⟨?_, ?_⟩))), by (repeat' (first | exact trivial | exact rfl | (refine ⟨Or.inl rfl, ?_⟩) | (refine ⟨Or.inr rfl, ?_⟩) | (refine ⟨Or.inr trivial, ?_⟩) | (refine ⟨rfl, ?_⟩) | (refine ⟨?_, ?_⟩)))⟩; exact ⟨by omega, by rw [hg, if_neg (by simp [h])]⟩
  · have : k = l.length := by omega
    subst this
    repeat' (first | ((with_reducible refine gA ?_); (first | refine AW_seq ?_ | refine AW_region ?_ | (refine AW_cond rfl (fun hc => ?_) (fun hc => ?_) <;> try (exfalso; simp only [cmpL] at hc; omega)) | refine AW_ret ?_ | refine AW_exit ?_)) | ((with_reducible refine gS ?_); refine Es_s (T := Tryz.tab) rfl rfl rfl rfl ?_) | (with_reducible refine Es_nil ?_) | (with_reducible refine then_n ?_) | (with_reducible refine then_e ?_) | ((with_reducible refine block_e ?_ ?_); rfl) | ((with_reducible refine gR ?_); first | refine ret1 rfl ?_ | refine ret2 rfl rfl ?_ | refine ret0 ?_ | refine end1 rfl ?_ | refine end0 ?_))
    rw [hg, drop_end, idxG]
theorem any_mem (x : Nat) (l : List Nat) : l.any (fun y : Nat => eqb (x : Int) (y : Int)) = decide (x ∈ l) := by
  rw [Bool.eq_iff_iff, List.any_eq_true, decide_eq_true_eq]
  constructor
  · rintro ⟨y, hy, h⟩
    rw [eqb_t] at h
    have : x = y := by omega
    rw [this]; exact hy
  · intro h
    exact ⟨x, h, by rw [eqb_t]⟩
set_option maxRecDepth 10000 in
theorem containsI_ac (l : List Nat) (x : Nat) (hl : l.length ≤ 140737488351232) : AC Tryz.prog 154 [.d (.sl 1 (l.map iN)), .d (.sc (.int .i64 (x : Nat)))] [] [] (fun r _ => r = .d (.sc (.bool (decide (x ∈ l))))) := by
  have c := indexI_ac l x hl
  refine AC_enter Tryz.func154 rfl Tryz.ntmps154 (rv := [.tmp 4]) rfl rfl (by simp) (fun w X G => ?_)
  repeat' (first | ((with_reducible refine gA ?_); (first | refine AW_seq ?_ | refine AW_region ?_ | refine AW_ret ?_)) | ((with_reducible refine gS ?_); refine Es_s (T := Tryz.tab) rfl rfl rfl rfl ?_) | (((with_reducible refine gS ?_); apply Es_q); rfl; rfl; refine LStep_call (c) rfl rfl rfl rfl) | (with_reducible refine Es_nil ?_) | (with_reducible refine then_n ?_) | ((with_reducible refine gR ?_); first | refine ret1 rfl ?_ | refine ret2 rfl rfl ?_ | refine ret0 ?_ | refine end1 rfl ?_ | refine end0 ?_))
  rw [idxG_any, any_mem]
/-! ### ring -/
def tbl (t : Nat → Nat → Int) : List AV := (List.range 64).map fun k => .d (.sc (.int .i64 (t (k / 8) (k % 8))))
theorem tbl_at (t : Nat → Nat → Int) {i j : Nat} (hi : i < 8) (hj : j < 8) : (tbl t)[0 + i * 8 + j * 1]? = some (.d (.sc (.int .i64 (t i j)))) := by
  unfold tbl
  rw [List.getElem?_map, List.getElem?_range (by omega)]
  have e1 : (0 + i * 8 + j * 1) / 8 = i := by omega
  have e2 : (0 + i * 8 + j * 1) % 8 = j := by omega
  rw [Option.map_some, e1, e2]
def ringV : Option (List Nat) → AV
  | none => .d (.sc (.slice none 0 0))
  | some p => .d (.sl 1 (p.map iN))
def hR (t : Nat → Nat → Int) : Hp := [(1000, some (.cells (tbl t))), (1001, some (.cells [.ptr 1000 0])), (1002, some (.cells [.fn 153 [.ptr 1001 0, .ptr 1002 0]]))]
/-- how far the search has come -/
theorem range_filter_at {p : Nat → Bool} {k n : Nat} {g : Nat → Option (List Nat)} (hk : k < n) (h0 : ∀ j ∈ (List.range k).filter p, g j = none) :
    (p k = true → ∀ b, g k = some b → ((List.range n).filter p).findSome? g = some b) ∧ ((p k = true → g k = none) → ∀ j ∈ (List.range (k + 1)).filter p, g j = none) := by
  refine ⟨fun hp b hb => ?_, fun h j hj => ?_⟩
  · have e : List.range n = List.range k ++ k :: (List.range n).drop (k + 1) := by
      have h1 : (List.range n)[k]? = some k := List.getElem?_range hk
      have := split_at h1
      rwa [List.take_range, Nat.min_eq_left (by omega)] at this
    rw [e, List.filter_append, List.findSome?_append, List.findSome?_eq_none_iff.2 h0, Option.none_or, List.filter_cons, if_pos hp, List.findSome?_cons, hb]
  · rw [List.range_succ, List.filter_append] at hj
    rcases List.mem_append.1 hj with q | q
    · exact h0 j q
    · rw [List.filter_cons, List.filter_nil] at q
      split at q
      · rename_i hp
        rw [List.mem_singleton.1 q]
        exact h hp
      · cases q
theorem alongR_ne {α : Type} [DecidableEq α] {z : α} {T : α → α → Int} {S : List α} {lt : α → α → Bool} : ∀ {f : Nat} {r r' : List α}, r ≠ [] → alongR z T S lt f r = some r' → r' ≠ []
  | 0, _, _, _, h => by cases h
  | f + 1, r, r', h0, h => by
    unfold alongR at h
    split at h
    · cases h; exact h0
    · obtain ⟨x, _, hx⟩ := List.exists_of_findSome?_eq_some h
      exact alongR_ne (by simp) hx
end Go.Proofs.YtofdnkgieigncaaGreat
namespace Go.Proofs.YtofdnkgieigncaaGreat
open Go.SL
/-! ### ring: the search -/
set_option maxRecDepth 10000 in
theorem cloneI1_ac (l : List Nat) (hl : l.length ≤ 1048576) (hne : l.map iN ≠ []) : AC Tryz.prog 155 [.d (.sl 1 (l.map iN))] [] [] (fun r h' => r = .own 5 (l.map iN).length ∧ SubH [(5, some (.arr 3 1 (l.map iN)))] h') := by
  refine AC_enter Tryz.func155 rfl Tryz.ntmps155 (rv := [.tmp 2]) rfl rfl (by simp) (fun w X G => ?_)
  repeat' (first | ((with_reducible refine gS ?_); refine Es_eqNil (T := Tryz.tab) rfl rfl rfl rfl rfl rfl (fun h0 => absurd h0 hne) ?_) | ((with_reducible refine gA ?_); (first | refine AW_seq ?_ | refine AW_region ?_ | refine AW_condF rfl ?_ | refine AW_ret ?_ | refine AW_skip ?_)) | ((with_reducible refine gS ?_); refine Es_s (T := Tryz.tab) rfl rfl rfl rfl ?_) | (((with_reducible refine gS ?_); apply Es_xs); rfl; rfl; (first | (refine LStep_litOwn (T := Tryz.tab) (len := 0) rfl rfl rfl rfl rfl rfl rfl rfl rfl rfl ?_ ?_; (refine Nat.le_of_ble_eq_true ?_; rfl); (unfold maxLen; omega)) | (refine LStep_append (T := Tryz.tab) rfl rfl rfl rfl rfl rfl rfl rfl rfl rfl ?_ ?_ ?_; rfl; (simp only [List.length_map, List.length_nil]; omega); (unfold maxLen; simp only [List.length_map, List.length_nil]; omega))); rfl) | (with_reducible refine Es_nil ?_) | (with_reducible refine then_n ?_) | ((with_reducible refine gR ?_); first | refine ret1 rfl ?_ | refine ret2 rfl rfl ?_ | refine ret0 ?_ | refine end1 rfl ?_ | refine end0 ?_))
  exact ⟨rfl, rfl, trivial⟩
theorem fst_at {l : List Nat} (h : l ≠ []) : l[(0 : Int).toNat]? = some (fstR 0 l) := by
  cases l with
  | nil => exact absurd rfl h
  | cons a l => rfl
theorem lst_at {l : List Nat} (h : l ≠ []) : l[l.length - 1]? = some (lstR 0 l) := by
  unfold lstR
  rw [List.getLastD_eq_getLast?, List.getLast?_eq_getElem?]
  cases hq : l[l.length - 1]? with
  | none =>
    have := List.length_pos_iff.2 h
    rw [List.getElem?_eq_none_iff] at hq
    omega
  | some x => rfl
def smT (t : Nat → Nat → Int) : Prop := ∀ i j, 0 ≤ t i j ∧ t i j ≤ 1099511627776
set_option maxRecDepth 10000 in
set_option maxHeartbeats 16000000 in
theorem along_ac (t : Nat → Nat → Int) (ht : smT t) : ∀ (f : Nat) (path : List Nat), path ≠ [] → path.Nodup → (∀ x ∈ path, x < 8) → path.length + f = 9 →
    AC Tryz.prog 153 [.d (.sl 1 (path.map iN)), .ptr 1001 0, .ptr 1002 0] (hR t) [1000, 1001, 1002] (fun r h' => r = ringV (alongR 0 t (List.range 8) ltI f path) ∧ Kp (hR t) h')
  | 0, path, _, hnd, h8, hlen => by
    have := nodup_le hnd (S := List.range 8) (fun x hx => List.mem_range.2 (h8 x hx))
    rw [List.length_range] at this
    omega
  | f + 1, path, h0, hnd, h8, hlen => by
    have ih := along_ac t ht f
    have hpl := List.length_pos_iff.2 h0
    have hf := fst_at h0
    have hl := lst_at h0
    have hf8 : fstR 0 path < 8 := h8 _ (fstR_in 0 h0)
    have hl8 : lstR 0 path < 8 := h8 _ (lstR_in 0 h0)
    have hmin : AV.d (.sc (.int .i64 (wrp .i64 ((path.length : Nat) - 1 : Int)))) = .d (.sc (.int .i64 ((path.length - 1 : Nat) : Int))) := by rw [wrp_fit (by omega), show ((path.length : Nat) : Int) - 1 = ((path.length - 1 : Nat) : Int) by omega]
    have hl' : path[((path.length - 1 : Nat) : Int).toNat]? = some (lstR 0 path) := by rw [Int.toNat_natCast]; exact hl
    have hunf : alongR 0 t (List.range 8) ltI (f + 1) path = if 1 < path.length ∧ 0 < t (lstR 0 path) (fstR 0 path) then some path else ((List.range 8).filter fun x => ltI (fstR 0 path) x && (decide (0 < t (lstR 0 path) x) && !(decide (x ∈ path)))).findSome? fun x => alongR 0 t (List.range 8) ltI f (path ++ [x]) := rfl
    rw [hunf]
    have hc1 := cloneI1_ac path (by omega) (by simpa using h0)
    have hcc := fun x : Nat => containsI_ac path x (by omega)
    have hml : (path.map iN).length = path.length := List.length_map _
    generalize fstR 0 path = a at *
    generalize lstR 0 path = b at *
    have ha := tbl_at t hl8 hf8
    have a1 : Nat.blt b 8 = true := by rw [Nat.blt_eq]; exact hl8
    have a2 : Nat.blt a 8 = true := by rw [Nat.blt_eq]; exact hf8
    have htb := ht b a
    by_cases hc : 1 < path.length ∧ 0 < t b a
    · rw [if_pos hc]
      have g1 : ltb 1 ((path.length : Nat) : Int) = true := by rw [ltb_t]; omega
      have g2 : ltb 0 (t b a) = true := by rw [ltb_t]; exact hc.2
      unfold hR at *
      generalize tbl t = W at *
      refine AC_enter Tryz.func153 rfl Tryz.ntmps153 (rv := [.tmp 4]) rfl rfl (by simp) (fun w X G => ?_)
      repeat' (first | ((with_reducible refine gA ?_); (first | refine AW_seq ?_ | refine AW_region ?_ | refine AW_regionD Tryz.mixed ?_ | (refine AW_condY rfl ?_ ?_; assumption) | refine AW_ret ?_)) | ((first | ((with_reducible refine gS ?_); apply Es_q) | ((with_reducible refine gD ?_); apply Ed_q)); rfl; (first | rfl | (refine w_tt ?_; assumption)); refine LStep_fitQ (T := Tryz.tab) rfl rfl hmin) | (first | ((with_reducible refine gS ?_); refine Es_s (T := Tryz.tab) rfl rfl rfl rfl ?_) | ((with_reducible refine gD ?_); refine Ed_s (T := Tryz.tab) rfl rfl rfl rfl ?_)) | ((first | ((with_reducible refine gS ?_); apply Es_q) | ((with_reducible refine gD ?_); apply Ed_q)); rfl; (first | rfl | (refine w_tt ?_; assumption)); (first | refine LStep_indexPtr (T := Tryz.tab) rfl rfl rfl rfl rfl rfl a1 | refine LStep_indexPtr (T := Tryz.tab) rfl rfl rfl rfl rfl rfl a2 | refine LStep_loadCell (T := Tryz.tab) rfl rfl rfl rfl rfl ha)) | ((first | ((with_reducible refine gS ?_); apply Es_q) | ((with_reducible refine gD ?_); apply Ed_q)); rfl; (first | rfl | (refine w_tt ?_; assumption)); (first | refine LStep_simp (T := Tryz.tab) rfl rfl | refine LStep_lenM (T := Tryz.tab) rfl rfl rfl rfl | (refine LStep_pickT rfl rfl ?_ rfl rfl; assumption) | (refine LStep_indexM (T := Tryz.tab) (c := ?_) rfl rfl rfl rfl rfl rfl ?_; rotate_left; assumption))) | (with_reducible refine Es_nil ?_) | ((with_reducible refine Ed_nil ?_ ?_); kernel_rfl) | (with_reducible refine then_n ?_) | (with_reducible refine then_r ?_) | ((with_reducible refine gR ?_); first | refine ret1 rfl ?_ | refine ret2 rfl rfl ?_ | refine ret0 ?_ | refine end1 rfl ?_ | refine end0 ?_))
      all_goals first
        | exact ⟨rfl, Kp.sub (by (repeat' (first | exact trivial | exact rfl | (refine ⟨Or.inl rfl, ?_⟩) | (refine ⟨Or.inr rfl, ?_⟩) | (refine ⟨Or.inr trivial, ?_⟩) | (refine ⟨rfl, ?_⟩) | (refine ⟨?_, ?_⟩))))⟩
        | trace_state
    · rw [if_neg hc]
      have hcond : ∀ n, ltI a n = true → 0 < t b n → n ∉ path → (ltI a n && (decide (0 < t b n) && !(decide (n ∈ path)))) = true := fun n h1 h2 h3 => by rw [h1, decide_eq_true h2, decide_eq_false h3]; rfl
      have hdone := fun (n : Nat) (hn : n < 8) => range_filter_at (p := fun x => ltI a x && (decide (0 < t b x) && !(decide (x ∈ path)))) (g := fun x => alongR 0 t (List.range 8) ltI f (path ++ [x])) hn
      have hst : ∀ j ∈ (List.range (a + 1)).filter (fun x => ltI a x && (decide (0 < t b x) && !(decide (x ∈ path)))), alongR 0 t (List.range 8) ltI f (path ++ [j]) = none := fun j hj => by
        obtain ⟨h1, h2⟩ := List.mem_filter.1 hj
        have h3 := List.mem_range.1 h1
        rw [Bool.and_eq_true] at h2
        have h4 := of_decide_eq_true h2.1
        omega
      have g1 : ltb 1 ((path.length : Nat) : Int) = true → ltb 0 (t b a) = false := fun h => by rw [ltb_t] at h; rw [ltb_f]; omega
      have htn : ∀ n, n < 8 → (tbl t)[0 + b * 8 + n * 1]? = some (.d (.sc (.int .i64 (t b n)))) := fun n hn => tbl_at t hl8 hn
      unfold hR at *
      refine AC_enter Tryz.func153 rfl Tryz.ntmps153 (rv := [.tmp 4]) rfl rfl (by simp) (fun w X G => ?_)
      repeat' (first | ((with_reducible refine gA ?_); (first | refine AW_seq ?_ | refine AW_region ?_ | refine AW_regionD Tryz.mixed ?_ | refine AW_condF rfl ?_ | (refine AW_cond rfl (fun hc => ?_) (fun hc => ?_) <;> try (exfalso; simp only [cmpL] at hc; omega)) | refine AW_block ?_ | refine AW_ret ?_ | refine AW_skip ?_)) | ((first | ((with_reducible refine gS ?_); apply Es_q) | ((with_reducible refine gD ?_); apply Ed_q)); rfl; (first | rfl | (refine w_tt ?_; assumption)); refine LStep_fitQ (T := Tryz.tab) rfl rfl hmin) | (first | ((with_reducible refine gS ?_); refine Es_s (T := Tryz.tab) rfl rfl rfl rfl ?_) | ((with_reducible refine gD ?_); refine Ed_s (T := Tryz.tab) rfl rfl rfl rfl ?_)) | ((first | ((with_reducible refine gS ?_); apply Es_q) | ((with_reducible refine gD ?_); apply Ed_q)); rfl; (first | rfl | (refine w_tt ?_; assumption)); (first | refine LStep_indexPtr (T := Tryz.tab) rfl rfl rfl rfl rfl rfl a1 | refine LStep_indexPtr (T := Tryz.tab) rfl rfl rfl rfl rfl rfl a2 | refine LStep_loadCell (T := Tryz.tab) rfl rfl rfl rfl rfl ha)) | ((first | ((with_reducible refine gS ?_); apply Es_q) | ((with_reducible refine gD ?_); apply Ed_q)); rfl; (first | rfl | (refine w_tt ?_; assumption)); (first | refine LStep_simp (T := Tryz.tab) rfl rfl | refine LStep_lenM (T := Tryz.tab) rfl rfl rfl rfl | (refine LStep_add rfl rfl rfl rfl ?_; (refine IntWalk.i64_in _ ?_; first | omega | (simp only [cmps] at *; omega))) | (refine LStep_pickT rfl rfl ?_ rfl rfl; assumption) | (refine LStep_pickF rfl rfl ?_ rfl rfl; assumption) | (refine LStep_indexM (T := Tryz.tab) (c := ?_) rfl rfl rfl rfl rfl rfl ?_; rotate_left; assumption))) | (refine Es_skip rfl ?_ rfl ?_; (first | rfl | (refine w_tf ?_; assumption) | (refine w_ft ?_; assumption))) | (refine Es_split rfl ?_ (fun _ => ?_) (fun _ => ?_); ((fail_if_success (refine und_t ?_; assumption)); (fail_if_success (refine und_f ?_; assumption)); exact trivial)) | (with_reducible refine Es_nil ?_) | ((with_reducible refine Ed_nil ?_ ?_); kernel_rfl) | (with_reducible refine then_n ?_) | (with_reducible refine then_r ?_) | ((with_reducible refine gR ?_); first | refine ret1 rfl ?_ | refine ret2 rfl rfl ?_ | refine ret0 ?_ | refine end1 rfl ?_ | refine end0 ?_))
      all_goals try (exfalso; simp_all; done)
      all_goals
        refine AW_forE (S := Nat) (fun n => a + 1 ≤ n ∧ n ≤ 8 ∧ ∀ j ∈ (List.range n).filter (fun x => ltI a x && (decide (0 < t b x) && !(decide (x ∈ path)))), alongR 0 t (List.range 8) ltI f (path ++ [j]) = none) (fun n => [(7, .d (.sc (.int .i64 (n : Nat))))]) (fun _ => []) (fun n => 8 - n) (a + 1) ⟨by omega, by omega, hst⟩ (by (repeat' (first | exact trivial | exact rfl | (refine ⟨Or.inl rfl, ?_⟩) | (refine ⟨Or.inr rfl, ?_⟩) | (refine ⟨Or.inr trivial, ?_⟩) | (refine ⟨rfl, ?_⟩) | (refine ⟨?_, ?_⟩)))) (by (repeat' (first | exact trivial | exact rfl | (refine ⟨Or.inl rfl, ?_⟩) | (refine ⟨Or.inr rfl, ?_⟩) | (refine ⟨Or.inr trivial, ?_⟩) | (refine ⟨rfl, ?_⟩) | (refine ⟨?_, ?_⟩)))) ?_
        intro n ⟨hn1, hn2, hno⟩
        by_cases hlt : n < 8
        · obtain ⟨d1, d2⟩ := hdone n hlt hno
          have hn := htn n hlt
          have cn := hcc n
          have an : Nat.blt n 8 = true := by rw [Nat.blt_eq]; exact hlt
          have htbn := ht b n
          have g3 : ltb ((n : Nat) : Int) 8 = true := by rw [ltb_t]; omega
          by_cases hz : t b n = 0
          · have g4 : eqb (t b n) 0 = true := by rw [eqb_t]; exact hz
            have hn' := d2 (fun h => by rw [Bool.and_eq_true, Bool.and_eq_true] at h; have := of_decide_eq_true h.2.1; omega)
            repeat' (first | ((with_reducible refine gA ?_); (first | refine AW_seq ?_ | refine AW_region ?_ | refine AW_condT rfl ?_ | (refine AW_condY rfl ?_ ?_; assumption) | refine AW_block ?_ | refine AW_skip ?_ | refine AW_exit ?_)) | ((with_reducible refine gS ?_); refine Es_s (T := Tryz.tab) rfl rfl rfl rfl ?_) | (((with_reducible refine gS ?_); apply Es_q); rfl; rfl; (first | refine LStep_indexPtr (T := Tryz.tab) rfl rfl rfl rfl rfl rfl a1 | refine LStep_indexPtr (T := Tryz.tab) rfl rfl rfl rfl rfl rfl an | refine LStep_loadCell (T := Tryz.tab) rfl rfl rfl rfl rfl hn)) | (((with_reducible refine gS ?_); apply Es_q); rfl; rfl; (first | (refine LStep_add rfl rfl rfl rfl ?_; (refine IntWalk.i64_in _ ?_; first | omega | (simp only [cmps] at *; omega))) | (refine LStep_pickT rfl rfl ?_ rfl rfl; assumption))) | (refine Es_skip rfl ?_ rfl ?_; (first | rfl | (refine w_tf ?_; assumption) | (refine w_ft ?_; assumption))) | (with_reducible refine Es_nil ?_) | (with_reducible refine then_n ?_) | (with_reducible refine then_e ?_) | ((with_reducible refine block_e ?_ ?_); rfl))
            all_goals first
              | (refine ⟨n + 1, ?_, by omega, by (repeat' (first | exact trivial | exact rfl | (refine ⟨Or.inl rfl, ?_⟩) | (refine ⟨Or.inr rfl, ?_⟩) | (refine ⟨Or.inr trivial, ?_⟩) | (refine ⟨rfl, ?_⟩) | (refine ⟨?_, ?_⟩))), by (repeat' (first | exact trivial | exact rfl | (refine ⟨Or.inl rfl, ?_⟩) | (refine ⟨Or.inr rfl, ?_⟩) | (refine ⟨Or.inr trivial, ?_⟩) | (refine ⟨rfl, ?_⟩) | (refine ⟨?_, ?_⟩))), by (repeat' (first | exact trivial | exact rfl | (refine ⟨Or.inl rfl, ?_⟩) | (refine ⟨Or.inr rfl, ?_⟩) | (refine ⟨Or.inr trivial, ?_⟩) | (refine ⟨rfl, ?_⟩) | (refine ⟨?_, ?_⟩))), by (repeat' (first | exact trivial | exact rfl | (refine ⟨Or.inl rfl, ?_⟩) | (refine ⟨Or.inr rfl, ?_⟩) | (refine ⟨Or.inr trivial, ?_⟩) | (refine ⟨rfl, ?_⟩) | (refine ⟨?_, ?_⟩)))⟩; exact ⟨by omega, by omega, hn'⟩)
              | trace_state
          · have g4 : eqb (t b n) 0 = false := by rw [eqb_f]; exact hz
            by_cases hin : n ∈ path
            · have hn' := d2 (fun h => by rw [Bool.and_eq_true, Bool.and_eq_true, Bool.not_eq_true', decide_eq_false_iff_not] at h; exact absurd hin h.2.2)
              rw [decide_eq_true hin] at cn
              repeat' (first | ((with_reducible refine gA ?_); (first | refine AW_seq ?_ | refine AW_region ?_ | refine AW_condT rfl ?_ | (refine AW_condY rfl ?_ ?_; assumption) | refine AW_block ?_ | refine AW_skip ?_ | refine AW_exit ?_)) | ((with_reducible refine gS ?_); refine Es_s (T := Tryz.tab) rfl rfl rfl rfl ?_) | (((with_reducible refine gS ?_); apply Es_q); rfl; (first | rfl | (refine w_ff ?_; assumption)); (first | refine LStep_indexPtr (T := Tryz.tab) rfl rfl rfl rfl rfl rfl a1 | refine LStep_indexPtr (T := Tryz.tab) rfl rfl rfl rfl rfl rfl an | refine LStep_loadCell (T := Tryz.tab) rfl rfl rfl rfl rfl hn | refine LStep_call (cn) rfl rfl rfl rfl)) | (((with_reducible refine gS ?_); apply Es_q); rfl; (first | rfl | (refine w_ff ?_; assumption)); (first | refine LStep_simp (T := Tryz.tab) rfl rfl | (refine LStep_add rfl rfl rfl rfl ?_; (refine IntWalk.i64_in _ ?_; first | omega | (simp only [cmps] at *; omega))) | (refine LStep_pickF rfl rfl ?_ rfl rfl; assumption))) | (with_reducible refine Es_nil ?_) | (with_reducible refine then_n ?_) | (with_reducible refine then_e ?_) | ((with_reducible refine block_e ?_ ?_); rfl))
              all_goals first
                | (refine ⟨n + 1, ?_, by omega, by (repeat' (first | exact trivial | exact rfl | (refine ⟨Or.inl rfl, ?_⟩) | (refine ⟨Or.inr rfl, ?_⟩) | (refine ⟨Or.inr trivial, ?_⟩) | (refine ⟨rfl, ?_⟩) | (refine ⟨?_, ?_⟩))), by (repeat' (first | exact trivial | exact rfl | (refine ⟨Or.inl rfl, ?_⟩) | (refine ⟨Or.inr rfl, ?_⟩) | (refine ⟨Or.inr trivial, ?_⟩) | (refine ⟨rfl, ?_⟩) | (refine ⟨?_, ?_⟩))), by (repeat' (first | exact trivial | exact rfl | (refine ⟨Or.inl rfl, ?_⟩) | (refine ⟨Or.inr rfl, ?_⟩) | (refine ⟨Or.inr trivial, ?_⟩) | (refine ⟨rfl, ?_⟩) | (refine ⟨?_, ?_⟩))), by (repeat' (first | exact trivial | exact rfl | (refine ⟨Or.inl rfl, ?_⟩) | (refine ⟨Or.inr rfl, ?_⟩) | (refine ⟨Or.inr trivial, ?_⟩) | (refine ⟨rfl, ?_⟩) | (refine ⟨?_, ?_⟩)))⟩; exact ⟨by omega, by omega, hn'⟩)
                | trace_state
            · rw [decide_eq_false hin] at cn
              have hp := hcond n (decide_eq_true (by omega)) (by omega) hin
              have ci := ih (path ++ [n]) (by simp) (snoc_nodup hnd hin) (fun x hx => by
                rcases List.mem_append.1 hx with q | q
                · exact h8 x q
                · rw [List.mem_singleton.1 q]; exact hlt) (by rw [List.length_append]; simp only [List.length_cons, List.length_nil]; omega)
              have hmp : (path ++ [n]).map iN = path.map iN ++ [[.sc (.int .i64 (n : Int))]] := by rw [List.map_append]; rfl
              rw [hmp] at ci
              cases hal : alongR 0 t (List.range 8) ltI f (path ++ [n]) with
              | none =>
                have hn' := d2 (fun _ => hal)
                rw [hal, show ringV none = AV.d (.sc (.slice none 0 0)) from rfl] at ci
                repeat' (first | ((with_reducible refine gA ?_); (first | refine AW_seq ?_ | refine AW_region ?_ | refine AW_regionD Tryz.mixed ?_ | refine AW_condF rfl ?_ | (refine AW_condY rfl ?_ ?_; assumption) | refine AW_block ?_ | refine AW_skip ?_)) | (first | ((with_reducible refine gS ?_); refine Es_s (T := Tryz.tab) rfl rfl rfl rfl ?_) | ((with_reducible refine gD ?_); refine Ed_s (T := Tryz.tab) rfl rfl rfl rfl ?_)) | ((first | ((with_reducible refine gS ?_); apply Es_q) | ((with_reducible refine gD ?_); apply Ed_q)); rfl; (first | rfl | (refine w_ff ?_; assumption)); (first | refine LStep_indexPtr (T := Tryz.tab) rfl rfl rfl rfl rfl rfl a1 | refine LStep_indexPtr (T := Tryz.tab) rfl rfl rfl rfl rfl rfl an | refine LStep_loadCell (T := Tryz.tab) rfl rfl rfl rfl rfl hn | refine LStep_call (cn) rfl rfl rfl rfl | refine LStep_callB ci rfl rfl ⟨rfl, rfl, rfl, trivial⟩ rfl rfl | refine LStep_neqNil0 (T := Tryz.tab) rfl rfl rfl rfl)) | ((first | ((with_reducible refine gS ?_); apply Es_xs) | ((with_reducible refine gD ?_); apply Ed_xs)); rfl; (first | rfl | (refine w_ff ?_; assumption)); (refine LStep_appendD (T := Tryz.tab) (dst := 56) 53 rfl rfl rfl rfl rfl rfl rfl rfl rfl rfl rfl ?_ ?_ ?_; rfl; (simp only [List.length_map, List.length_nil, List.length_cons]; omega); (unfold maxLen; simp only [List.length_map, List.length_nil, List.length_cons]; omega)); rfl) | ((first | ((with_reducible refine gS ?_); apply Es_xg) | ((with_reducible refine gD ?_); apply Ed_xg)); rfl; (first | rfl | (refine w_ff ?_; assumption)); refine LStep_callHN [] [(5, 53)] hc1 rfl rfl trivial rfl trivial rfl rfl; rfl) | ((first | ((with_reducible refine gS ?_); apply Es_q) | ((with_reducible refine gD ?_); apply Ed_q)); rfl; (first | rfl | (refine w_ff ?_; assumption)); (first | refine LStep_simp (T := Tryz.tab) rfl rfl | (refine LStep_add rfl rfl rfl rfl ?_; (refine IntWalk.i64_in _ ?_; first | omega | (simp only [cmps] at *; omega))) | (refine LStep_pickF rfl rfl ?_ rfl rfl; assumption) | (refine LStep_lit (T := Tryz.tab) rfl rfl rfl rfl rfl rfl rfl rfl ?_; (refine Nat.le_of_ble_eq_true ?_; rfl)))) | (with_reducible refine Es_nil ?_) | ((with_reducible refine Ed_nil ?_ ?_); kernel_rfl) | (with_reducible refine then_n ?_) | (with_reducible refine block_n ?_))
                all_goals first
                  | (refine ⟨n + 1, ?_, by omega, by (repeat' (first | exact trivial | exact rfl | (refine ⟨Or.inl rfl, ?_⟩) | (refine ⟨Or.inr rfl, ?_⟩) | (refine ⟨Or.inr trivial, ?_⟩) | (refine ⟨rfl, ?_⟩) | (refine ⟨?_, ?_⟩))), by (repeat' (first | exact trivial | exact rfl | (refine ⟨Or.inl rfl, ?_⟩) | (refine ⟨Or.inr rfl, ?_⟩) | (refine ⟨Or.inr trivial, ?_⟩) | (refine ⟨rfl, ?_⟩) | (refine ⟨?_, ?_⟩))), by (repeat' (first | exact trivial | exact rfl | (refine ⟨Or.inl rfl, ?_⟩) | (refine ⟨Or.inr rfl, ?_⟩) | (refine ⟨Or.inr trivial, ?_⟩) | (refine ⟨rfl, ?_⟩) | (refine ⟨?_, ?_⟩))), by (repeat' (first | exact trivial | exact rfl | (refine ⟨Or.inl rfl, ?_⟩) | (refine ⟨Or.inr rfl, ?_⟩) | (refine ⟨Or.inr trivial, ?_⟩) | (refine ⟨rfl, ?_⟩) | (refine ⟨?_, ?_⟩)))⟩; exact ⟨by omega, by omega, hn'⟩)
                  | trace_state
              | some r =>
                have hr := d1 hp r hal
                have hrne := alongR_ne (by simp) hal
                have hrne' : r.map iN ≠ [] := by simpa using hrne
                rw [hal, show ringV (some r) = AV.d (.sl 1 (r.map iN)) from rfl] at ci
                rw [hr]
                repeat' (first | ((with_reducible refine gA ?_); (first | refine AW_seq ?_ | refine AW_region ?_ | refine AW_regionD Tryz.mixed ?_ | refine AW_condT rfl ?_ | refine AW_condF rfl ?_ | (refine AW_condY rfl ?_ ?_; assumption) | refine AW_block ?_ | refine AW_ret ?_ | refine AW_skip ?_)) | (first | ((with_reducible refine gS ?_); refine Es_s (T := Tryz.tab) rfl rfl rfl rfl ?_) | ((with_reducible refine gD ?_); refine Ed_s (T := Tryz.tab) rfl rfl rfl rfl ?_)) | ((first | ((with_reducible refine gS ?_); apply Es_q) | ((with_reducible refine gD ?_); apply Ed_q)); rfl; (first | rfl | (refine w_ff ?_; assumption)); (first | refine LStep_indexPtr (T := Tryz.tab) rfl rfl rfl rfl rfl rfl a1 | refine LStep_indexPtr (T := Tryz.tab) rfl rfl rfl rfl rfl rfl an | refine LStep_loadCell (T := Tryz.tab) rfl rfl rfl rfl rfl hn | refine LStep_call (cn) rfl rfl rfl rfl | refine LStep_callB ci rfl rfl ⟨rfl, rfl, rfl, trivial⟩ rfl rfl | refine LStep_neqNilS (T := Tryz.tab) rfl rfl rfl rfl hrne')) | ((first | ((with_reducible refine gS ?_); apply Es_xs) | ((with_reducible refine gD ?_); apply Ed_xs)); rfl; (first | rfl | (refine w_ff ?_; assumption)); (refine LStep_appendD (T := Tryz.tab) (dst := 56) 53 rfl rfl rfl rfl rfl rfl rfl rfl rfl rfl rfl ?_ ?_ ?_; rfl; (simp only [List.length_map, List.length_nil, List.length_cons]; omega); (unfold maxLen; simp only [List.length_map, List.length_nil, List.length_cons]; omega)); rfl) | ((first | ((with_reducible refine gS ?_); apply Es_xg) | ((with_reducible refine gD ?_); apply Ed_xg)); rfl; (first | rfl | (refine w_ff ?_; assumption)); refine LStep_callHN [] [(5, 53)] hc1 rfl rfl trivial rfl trivial rfl rfl; rfl) | ((first | ((with_reducible refine gS ?_); apply Es_q) | ((with_reducible refine gD ?_); apply Ed_q)); rfl; (first | rfl | (refine w_ff ?_; assumption)); (first | refine LStep_simp (T := Tryz.tab) rfl rfl | (refine LStep_pickF rfl rfl ?_ rfl rfl; assumption) | (refine LStep_lit (T := Tryz.tab) rfl rfl rfl rfl rfl rfl rfl rfl ?_; (refine Nat.le_of_ble_eq_true ?_; rfl)))) | (with_reducible refine Es_nil ?_) | ((with_reducible refine Ed_nil ?_ ?_); kernel_rfl) | (with_reducible refine then_n ?_) | (with_reducible refine then_r ?_) | (with_reducible refine block_r ?_) | ((with_reducible refine gR ?_); first | refine ret1 rfl ?_ | refine ret2 rfl rfl ?_ | refine ret0 ?_ | refine end1 rfl ?_ | refine end0 ?_))
                all_goals first
                  | exact ⟨rfl, Kp.sub (by (repeat' (first | exact trivial | exact rfl | (refine ⟨Or.inl rfl, ?_⟩) | (refine ⟨Or.inr rfl, ?_⟩) | (refine ⟨Or.inr trivial, ?_⟩) | (refine ⟨rfl, ?_⟩) | (refine ⟨?_, ?_⟩))))⟩
                  | trace_state
        · have hn8 : n = 8 := by omega
          subst hn8
          have g3 : ltb ((8 : Nat) : Int) 8 = false := by rw [ltb_f]; omega
          rw [List.findSome?_eq_none_iff.2 hno]
          repeat' (first | ((with_reducible refine gA ?_); (first | refine AW_seq ?_ | refine AW_region ?_ | (refine AW_condN rfl ?_ ?_; assumption) | refine AW_ret ?_ | refine AW_exit ?_)) | ((with_reducible refine gS ?_); refine Es_s (T := Tryz.tab) rfl rfl rfl rfl ?_) | (with_reducible refine Es_nil ?_) | (with_reducible refine then_n ?_) | (with_reducible refine then_e ?_) | ((with_reducible refine block_e ?_ ?_); rfl) | ((with_reducible refine gR ?_); first | refine ret1 rfl ?_ | refine ret2 rfl rfl ?_ | refine ret0 ?_ | refine end1 rfl ?_ | refine end0 ?_))
          all_goals first
            | exact ⟨rfl, Kp.sub (by (repeat' (first | exact trivial | exact rfl | (refine ⟨Or.inl rfl, ?_⟩) | (refine ⟨Or.inr rfl, ?_⟩) | (refine ⟨Or.inr trivial, ?_⟩) | (refine ⟨rfl, ?_⟩) | (refine ⟨?_, ?_⟩))))⟩
            | trace_state
end Go.Proofs.YtofdnkgieigncaaGreat
