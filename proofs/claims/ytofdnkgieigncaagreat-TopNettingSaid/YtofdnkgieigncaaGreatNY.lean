import Derived.Test.YtofdnkgieigncaaGreatNW
namespace Go.Proofs.YtofdnkgieigncaaGreat
open Go.SL
section
variable {P : Program} {T : Tab P} {O : Org} {env : Env} {h : Hp} {o : Oper}
theorem LStep_remN {t yt : Nat} {x y : Operand} {k : IntKind} {m n q : Int} (ho : o.op = .binOp .rem t x y yt) (hx : evalA env x = .d (.sc (.int k m))) (hy : evalA env y = .d (.sc (.int k n))) (hn : n ≠ 0) (hq : m.tmod n = q) (hd : dstOk o.dst O.nt = true) :
    LStep P O o env h [] [] (.d (.sc (.int k q))) [] := by
  subst hq
  refine .quiet hd (fun env' h' he _ a w G r => ?_)
  have h1 := evalA_rep r.env x
  have h2 := evalA_rep r.env y
  rw [he x (by simp [ho, Op.operands]), hx] at h1
  rw [he y (by simp [ho, Op.operands]), hy] at h2
  exact ⟨.int k (m.tmod n), by simp [execOp, ho, h1.sc_inv, h2.sc_inv, eqGuard, binOp, Op.intDiv, hn], .d _ _ (.sc _ rfl)⟩
end
/-! ### ring -/
def hT (t : Nat → Nat → Int) : Hp := [(1000, some (.cells (tbl t)))]
theorem range_true (n : Nat) : (List.range n).filter (fun _ => true) = List.range n := List.filter_eq_self.2 (fun _ _ => rfl)
def ring8 (t : Nat → Nat → Int) : Option (List Nat) := ringR 0 t (List.range 8) ltI
set_option maxRecDepth 10000 in
set_option maxHeartbeats 16000000 in
theorem ring_ac (t : Nat → Nat → Int) (ht : smT t) : AC Tryz.prog 109 [.ptr 1000 0] (hT t) [1000] (fun r h' => r = ringV (ring8 t) ∧ SubH (hT t) h') := by
  have ca := fun a (ha : a < 8) => (along_ac t ht 8 [a] (by simp) (by simp) (fun x hx => by rw [List.mem_singleton.1 hx]; exact ha) rfl).mono (R' := fun r h' => r = ringV (alongR 0 t (List.range 8) ltI 8 [a]) ∧ SubH (hR t) h') (fun r h' hr => ⟨hr.1, hr.2 1000 _ rfl, hr.2 1001 _ rfl, hr.2 1002 _ rfl, trivial⟩)
  have hdone := fun (n : Nat) (hn : n < 8) => range_filter_at (p := fun _ => true) (g := fun a => alongR 0 t (List.range 8) ltI 8 [a]) hn
  have hrr : ring8 t = ((List.range 8).filter (fun _ => true)).findSome? fun a => alongR 0 t (List.range 8) ltI 8 [a] := by rw [range_true]; rfl
  rw [hrr]
  unfold hT
  unfold hR at ca
  refine AC_enter Tryz.func109 rfl Tryz.ntmps109 (rv := [.tmp 2]) rfl rfl (by simp) (fun w X G => ?_)
  repeat' (first | ((with_reducible refine gA ?_); (first | refine AW_seq ?_ | refine AW_region ?_ | refine AW_block ?_)) | ((with_reducible refine gS ?_); refine Es_s (T := Tryz.tab) rfl rfl rfl rfl ?_) | (refine Es_skip rfl ?_ rfl ?_; (first | rfl | (refine w_tf ?_; assumption) | (refine w_ft ?_; assumption))) | (((with_reducible refine gS ?_); apply Es_xs); rfl; rfl; (first | refine LStep_boxN rfl rfl rfl rfl rfl rfl | refine LStep_allocN (T := Tryz.tab) rfl rfl rfl rfl rfl rfl); rfl) | (((with_reducible refine gS ?_); apply Es_xn); rfl; rfl; (refine LStep_storeN (T := Tryz.tab) rfl rfl rfl rfl rfl rfl rfl ?_ rfl; (refine Nat.le_of_ble_eq_true ?_; rfl)); rfl) | (with_reducible refine Es_nil ?_) | (with_reducible refine then_n ?_))
  refine AW_forE (S := Nat) (fun k => k ≤ 8 ∧ ∀ j ∈ (List.range k).filter (fun _ => true), alongR 0 t (List.range 8) ltI 8 [j] = none) (fun k => [(7, .d (.sc (.int .i64 (k : Nat))))]) (fun _ => []) (fun k => 8 - k) 0 ⟨by omega, by simp⟩ (by (repeat' (first | exact trivial | exact rfl | (refine ⟨Or.inl rfl, ?_⟩) | (refine ⟨Or.inr rfl, ?_⟩) | (refine ⟨Or.inr trivial, ?_⟩) | (refine ⟨rfl, ?_⟩) | (refine ⟨?_, ?_⟩)))) (by (repeat' (first | exact trivial | exact rfl | (refine ⟨Or.inl rfl, ?_⟩) | (refine ⟨Or.inr rfl, ?_⟩) | (refine ⟨Or.inr trivial, ?_⟩) | (refine ⟨rfl, ?_⟩) | (refine ⟨?_, ?_⟩)))) ?_
  intro k ⟨hk, hno⟩
  by_cases hlt : k < 8
  · obtain ⟨d1, d2⟩ := hdone k hlt hno
    have ci := ca k hlt
    have g3 : ltb ((k : Nat) : Int) 8 = true := by rw [ltb_t]; omega
    cases hal : alongR 0 t (List.range 8) ltI 8 [k] with
    | none =>
      have hn' := d2 (fun _ => hal)
      rw [hal, show ringV none = AV.d (.sc (.slice none 0 0)) from rfl] at ci
      repeat' (first | ((with_reducible refine gA ?_); (first | refine AW_seq ?_ | refine AW_region ?_ | refine AW_condF rfl ?_ | (refine AW_condY rfl ?_ ?_; assumption) | refine AW_block ?_ | refine AW_skip ?_)) | ((with_reducible refine gS ?_); refine Es_s (T := Tryz.tab) rfl rfl rfl rfl ?_) | (((with_reducible refine gS ?_); apply Es_q); rfl; rfl; refine LStep_neqNil0 (T := Tryz.tab) rfl rfl rfl rfl) | (((with_reducible refine gS ?_); apply Es_xg); rfl; rfl; refine LStep_callHN [(1000, 1000), (1001, 1), (1002, 3)] [] ci rfl rfl ⟨rfl, rfl, rfl, trivial⟩ rfl ⟨trivial, trivial, trivial, trivial⟩ rfl rfl; rfl) | (((with_reducible refine gS ?_); apply Es_q); rfl; rfl; (first | (refine LStep_add rfl rfl rfl rfl ?_; (refine IntWalk.i64_in _ ?_; first | omega | (simp only [cmps] at *; omega))) | (refine LStep_lit (T := Tryz.tab) rfl rfl rfl rfl rfl rfl rfl rfl ?_; (refine Nat.le_of_ble_eq_true ?_; rfl)))) | (with_reducible refine Es_nil ?_) | (with_reducible refine then_n ?_) | (with_reducible refine block_n ?_))
      all_goals first
        | (refine ⟨k + 1, ?_, by omega, by (repeat' (first | exact trivial | exact rfl | (refine ⟨Or.inl rfl, ?_⟩) | (refine ⟨Or.inr rfl, ?_⟩) | (refine ⟨Or.inr trivial, ?_⟩) | (refine ⟨rfl, ?_⟩) | (refine ⟨?_, ?_⟩))), by (repeat' (first | exact trivial | exact rfl | (refine ⟨Or.inl rfl, ?_⟩) | (refine ⟨Or.inr rfl, ?_⟩) | (refine ⟨Or.inr trivial, ?_⟩) | (refine ⟨rfl, ?_⟩) | (refine ⟨?_, ?_⟩))), by (repeat' (first | exact trivial | exact rfl | (refine ⟨Or.inl rfl, ?_⟩) | (refine ⟨Or.inr rfl, ?_⟩) | (refine ⟨Or.inr trivial, ?_⟩) | (refine ⟨rfl, ?_⟩) | (refine ⟨?_, ?_⟩))), by (repeat' (first | exact trivial | exact rfl | (refine ⟨Or.inl rfl, ?_⟩) | (refine ⟨Or.inr rfl, ?_⟩) | (refine ⟨Or.inr trivial, ?_⟩) | (refine ⟨rfl, ?_⟩) | (refine ⟨?_, ?_⟩)))⟩; exact ⟨by omega, hn'⟩)
        | trace_state
    | some r =>
      have hr := d1 rfl r hal
      have hrne := alongR_ne (by simp) hal
      have hrne' : r.map iN ≠ [] := by simpa using hrne
      rw [hal, show ringV (some r) = AV.d (.sl 1 (r.map iN)) from rfl] at ci
      rw [hr]
      repeat' (first | ((with_reducible refine gA ?_); (first | refine AW_seq ?_ | refine AW_region ?_ | refine AW_condT rfl ?_ | (refine AW_condY rfl ?_ ?_; assumption) | refine AW_block ?_ | refine AW_ret ?_ | refine AW_skip ?_)) | ((with_reducible refine gS ?_); refine Es_s (T := Tryz.tab) rfl rfl rfl rfl ?_) | (((with_reducible refine gS ?_); apply Es_q); rfl; rfl; refine LStep_neqNilS (T := Tryz.tab) rfl rfl rfl rfl hrne') | (((with_reducible refine gS ?_); apply Es_xg); rfl; rfl; refine LStep_callHN [(1000, 1000), (1001, 1), (1002, 3)] [] ci rfl rfl ⟨rfl, rfl, rfl, trivial⟩ rfl ⟨trivial, trivial, trivial, trivial⟩ rfl rfl; rfl) | (((with_reducible refine gS ?_); apply Es_q); rfl; rfl; (refine LStep_lit (T := Tryz.tab) rfl rfl rfl rfl rfl rfl rfl rfl ?_; (refine Nat.le_of_ble_eq_true ?_; rfl))) | (with_reducible refine Es_nil ?_) | (with_reducible refine then_n ?_) | (with_reducible refine then_r ?_) | (with_reducible refine block_r ?_) | ((with_reducible refine gR ?_); first | refine ret1 rfl ?_ | refine ret2 rfl rfl ?_ | refine ret0 ?_ | refine end1 rfl ?_ | refine end0 ?_))
      all_goals first
        | exact ⟨rfl, by (repeat' (first | exact trivial | exact rfl | (refine ⟨Or.inl rfl, ?_⟩) | (refine ⟨Or.inr rfl, ?_⟩) | (refine ⟨Or.inr trivial, ?_⟩) | (refine ⟨rfl, ?_⟩) | (refine ⟨?_, ?_⟩)))⟩
        | trace_state
  · have hk8 : k = 8 := by omega
    subst hk8
    have g3 : ltb ((8 : Nat) : Int) 8 = false := by rw [ltb_f]; omega
    rw [List.findSome?_eq_none_iff.2 hno]
    repeat' (first | ((with_reducible refine gA ?_); (first | refine AW_seq ?_ | refine AW_region ?_ | (refine AW_condN rfl ?_ ?_; assumption) | refine AW_ret ?_ | refine AW_exit ?_)) | ((with_reducible refine gS ?_); refine Es_s (T := Tryz.tab) rfl rfl rfl rfl ?_) | (with_reducible refine Es_nil ?_) | (with_reducible refine then_n ?_) | (with_reducible refine then_e ?_) | ((with_reducible refine block_e ?_ ?_); rfl) | ((with_reducible refine gR ?_); first | refine ret1 rfl ?_ | refine ret2 rfl rfl ?_ | refine ret0 ?_ | refine end1 rfl ?_ | refine end0 ?_))
    all_goals first
      | exact ⟨rfl, by (repeat' (first | exact trivial | exact rfl | (refine ⟨Or.inl rfl, ?_⟩) | (refine ⟨Or.inr rfl, ?_⟩) | (refine ⟨Or.inr trivial, ?_⟩) | (refine ⟨rfl, ?_⟩) | (refine ⟨?_, ?_⟩)))⟩
      | trace_state
/-! ### loosen: the next on the ring -/
def nxtN (r : List Nat) (i : Nat) : Nat := r.getD ((i + 1) % r.length) 0
theorem nxt_at {r : List Nat} (h : r ≠ []) (i : Nat) : r[(((i + 1) % r.length : Nat) : Int).toNat]? = some (nxtN r i) := by
  have hl := List.length_pos_iff.2 h
  rw [Int.toNat_natCast]
  unfold nxtN
  rw [List.getD_eq_getElem?_getD, List.getElem?_eq_getElem (Nat.mod_lt _ hl)]
  rfl
def hP4 (r : List Nat) : Hp := [(4, some (.cells [.d (.sl 1 (r.map iN))]))]
set_option maxRecDepth 10000 in
theorem next_ac (r : List Nat) (i : Nat) (hr : r ≠ []) (hl : r.length ≤ 8) (hi : i ≤ 8) : AC Tryz.prog 110 [.d (.sc (.int .i64 (i : Nat))), .ptr 4 0] (hP4 r) [4] (fun v h' => v = .d (.sc (.int .i64 (nxtN r i : Nat))) ∧ Kp (hP4 r) h') := by
  have hn := nxt_at hr i
  have h0 := List.length_pos_iff.2 hr
  have hq : (((i : Nat) : Int) + 1).tmod ((r.length : Nat) : Int) = (((i + 1) % r.length : Nat) : Int) := by
    rw [show ((i : Nat) : Int) + 1 = ((i + 1 : Nat) : Int) from rfl]
    rfl
  have hne : ((r.length : Nat) : Int) ≠ 0 := by omega
  unfold hP4
  generalize nxtN r i = m at *
  refine AC_enter Tryz.func110 rfl Tryz.ntmps110 (rv := [.tmp 3]) rfl rfl (by simp) (fun w X G => ?_)
  repeat' (first | ((with_reducible refine gA ?_); (first | refine AW_seq ?_ | refine AW_region ?_ | refine AW_regionD Tryz.mixed ?_ | refine AW_ret ?_)) | (first | ((with_reducible refine gS ?_); refine Es_s (T := Tryz.tab) rfl rfl rfl rfl ?_) | ((with_reducible refine gD ?_); refine Ed_s (T := Tryz.tab) rfl rfl rfl rfl ?_)) | (((with_reducible refine gD ?_); apply Ed_q); rfl; rfl; refine LStep_remN rfl rfl rfl hne hq rfl) | (((with_reducible refine gD ?_); apply Ed_q); rfl; rfl; (first | refine LStep_lenM (T := Tryz.tab) rfl rfl rfl rfl | (refine LStep_add rfl rfl rfl rfl ?_; (refine IntWalk.i64_in _ ?_; first | omega | (simp only [cmps] at *; omega))) | (refine LStep_indexM (T := Tryz.tab) (c := ?_) rfl rfl rfl rfl rfl rfl ?_; rotate_left; assumption))) | (with_reducible refine Es_nil ?_) | ((with_reducible refine Ed_nil ?_ ?_); kernel_rfl) | (with_reducible refine then_n ?_) | ((with_reducible refine gR ?_); first | refine ret1 rfl ?_ | refine ret2 rfl rfl ?_ | refine ret0 ?_ | refine end1 rfl ?_ | refine end0 ?_))
  all_goals first
    | exact ⟨rfl, Kp.sub (by (repeat' (first | exact trivial | exact rfl | (refine ⟨Or.inl rfl, ?_⟩) | (refine ⟨Or.inr rfl, ?_⟩) | (refine ⟨Or.inr trivial, ?_⟩) | (refine ⟨rfl, ?_⟩) | (refine ⟨?_, ?_⟩))))⟩
    | trace_state
end Go.Proofs.YtofdnkgieigncaaGreat
namespace Go.Proofs.YtofdnkgieigncaaGreat
open Go.SL
/-! ### loosen: plain -/
theorem edg_len : ∀ r : List Nat, (edg r).length = r.length - 1
  | [] => rfl
  | [_] => rfl
  | a :: b :: r => by
    show (edg (b :: r)).length + 1 = _
    rw [edg_len (b :: r)]
    simp only [List.length_cons]
    omega
theorem edg_get : ∀ (r : List Nat) (i : Nat), i + 1 < r.length → (edg r)[i]? = some (r.getD i 0, r.getD (i + 1) 0)
  | [], _, h => by simp at h
  | [_], i, h => by simp at h
  | a :: b :: r, 0, _ => rfl
  | a :: b :: r, i + 1, h => by
    show (edg (b :: r))[i]? = _
    rw [edg_get (b :: r) i (by simpa using h)]
    rfl
theorem rng_get {r : List Nat} (h : r ≠ []) {i : Nat} (hi : i < r.length) : (rng 0 r)[i]? = some (r.getD i 0, nxtN r i) := by
  unfold rng nxtN
  by_cases hl : i + 1 < r.length
  · rw [List.getElem?_append_left (by rw [edg_len]; omega), edg_get r i hl, Nat.mod_eq_of_lt hl]
  · have hi' : i + 1 = r.length := by omega
    rw [List.getElem?_append_right (by rw [edg_len]; omega), edg_len, show i - (r.length - 1) = 0 by omega, hi', Nat.mod_self]
    have h1 := lst_at h
    have h2 : r.getD i 0 = lstR 0 r := by
      rw [List.getD_eq_getElem?_getD, show i = r.length - 1 by omega, h1]; rfl
    have h3 : r.getD 0 0 = fstR 0 r := by
      cases r with
      | nil => exact absurd rfl h
      | cons a r => rfl
    rw [h2, h3]
    rfl
def updT (t : Nat → Nat → Int) (i j : Nat) (v : Int) : Nat → Nat → Int := fun a b => if a = i ∧ b = j then v else t a b
theorem tbl_set (t : Nat → Nat → Int) {i j : Nat} (hi : i < 8) (hj : j < 8) (v : Int) : (tbl t).set (0 + i * 8 + j * 1) (.d (.sc (.int .i64 v))) = tbl (updT t i j v) := by
  refine List.ext_getElem? (fun k => ?_)
  rw [List.getElem?_set]
  unfold tbl updT
  by_cases hk : k < 64
  · rw [List.getElem?_map, List.getElem?_map, List.getElem?_range hk]
    simp only [List.length_map, List.length_range, Option.map_some]
    by_cases e : 0 + i * 8 + j * 1 = k
    · rw [if_pos e, if_pos (by omega), if_pos (by omega)]
    · rw [if_neg e, if_neg (by omega)]
  · rw [if_neg (by omega), List.getElem?_eq_none (by simp; omega), List.getElem?_eq_none (by simp; omega)]
theorem subR_snoc {t : Nat → Nat → Int} {E : List (Nat × Nat)} {p q : Nat} {n : Int} (h : (p, q) ∉ E) : subR t (E ++ [(p, q)]) n = updT (subR t E n) p q (t p q - n) ∧ subR t E n p q = t p q := by
  refine ⟨?_, by unfold subR; rw [if_neg h]⟩
  funext a b
  unfold updT
  by_cases e : a = p ∧ b = q
  · obtain ⟨rfl, rfl⟩ := e
    rw [if_pos ⟨rfl, rfl⟩]
    unfold subR
    rw [if_pos (by simp)]
  · rw [if_neg e]
    unfold subR
    have : ((a, b) ∈ E ++ [(p, q)]) ↔ (a, b) ∈ E := by
      rw [List.mem_append, List.mem_singleton, Prod.mk.injEq]
      exact ⟨fun h => h.elim id (fun h => absurd h e), .inl⟩
    by_cases hm : (a, b) ∈ E
    · rw [if_pos hm, if_pos (this.2 hm)]
    · rw [if_neg hm, if_neg (fun q => hm (this.1 q))]
theorem subR_nil (t : Nat → Nat → Int) (n : Int) : subR t [] n = t := by funext a b; unfold subR; rw [if_neg (by simp)]
theorem nodup_take {α : Type} {l : List α} (h : l.Nodup) {i : Nat} {x : α} (hx : l[i]? = some x) : x ∉ l.take i := fun hm => by
  obtain ⟨j, hj⟩ := List.getElem?_of_mem hm
  have hji : j < i := by
    have := (List.getElem?_eq_some_iff.1 hj).1
    rw [List.length_take] at this
    omega
  rw [List.getElem?_take_of_lt hji] at hj
  have h1 := (List.getElem?_eq_some_iff.1 hj).1
  have h2 := (List.getElem?_eq_some_iff.1 hx).1
  have := (List.getElem?_inj h1 h).1 (hj.trans hx.symm)
  omega
abbrev S8 : List Nat := List.range 8
def los8 (t : Nat → Nat → Int) : (Nat → Nat → Int) × Int := losR 0 S8 ltI t
theorem los_bd {t : Nat → Nat → Int} (ht : Tab8 t S8) : 0 ≤ (los8 t).2 ∧ (los8 t).2 ≤ 8796093022208 * (cntR t S8 : Int) := by
  refine losR_ind 0 S8 ltI (M := fun t => 0 ≤ (los8 t).2 ∧ (los8 t).2 ≤ 8796093022208 * (cntR t S8 : Int)) (fun t _ h => ?_) (fun t r ht h hi ih => ?_) t ht
  · unfold los8
    rw [losR_none 0 h]
    dsimp only
    omega
  · unfold los8 at *
    rw [losR_some 0 ht h]
    dsimp only
    obtain ⟨l1, l2, _⟩ := hi.least ht
    have hc := cntR_sub ht hi
    have hle : leastR 0 t r ≤ 1099511627776 := by
      have := (minE_le t (rng 0 r) 1099511627776).1
      exact this
    have hlen : r.length ≤ 8 := by
      have := nodup_le hi.nd hi.sub
      rwa [List.length_range] at this
    generalize cntR (subR t (rng 0 r) (leastR 0 t r)) S8 = c1 at *
    generalize cntR t S8 = c2 at *
    generalize (losR 0 S8 ltI (subR t (rng 0 r) (leastR 0 t r))).2 = m at *
    generalize leastR 0 t r = n at *
    have hq : n * (r.length : Int) ≤ 8796093022208 := by
      have h1 : n * (r.length : Int) ≤ 1099511627776 * 8 := Int.mul_le_mul hle (by omega) (by omega) (by omega)
      omega
    have hq0 : 0 ≤ n * (r.length : Int) := Int.mul_nonneg (by omega) (by omega)
    have hc2 : 8796093022208 * (c1 : Int) + 8796093022208 ≤ 8796093022208 * (c2 : Int) := by omega
    omega
theorem cnt_le (t : Nat → Nat → Int) : cntR t S8 ≤ 64 := by
  unfold cntR
  refine Nat.le_trans (List.length_filter_le _ _) ?_
  decide
theorem Tab8.sm {t : Nat → Nat → Int} (h : Tab8 t S8) : smT t := fun i j => ⟨h.nn i j, h.top i j⟩
theorem minE_first (t : Nat → Nat → Int) {E : List (Nat × Nat)} {e : Nat × Nat} (he : E[0]? = some e) (h : t e.1 e.2 ≤ 1099511627776) : minE t (t e.1 e.2) E = minE t 1099511627776 E := by
  cases E with
  | nil => simp at he
  | cons e' E =>
    simp only [List.getElem?_cons_zero, Option.some.injEq] at he
    subst he
    rw [minE_cons, minE_cons]
    congr 1
    unfold miI
    split <;> split <;> omega
def ringD : Option (List Nat) → D
  | none => .sc (.slice none 0 0)
  | some p => .sl 1 (p.map iN)
theorem ringV_d (v : Option (List Nat)) : ringV v = .d (ringD v) := by cases v <;> rfl
end Go.Proofs.YtofdnkgieigncaaGreat
namespace Go.Proofs.YtofdnkgieigncaaGreat
open Go.SL
/-! ### loosen: the walk -/
theorem AW_weakG {P : Program} {O : Org} {Q : Exit → Env → Hp → Prop} {env : Env} {h : Hp} {c : Code} {E : Env} {H : Hp} (s : Nat) (v : AV) (_ : lk env s = v) (H1 : AW P O c Q E H) (he : WeakL E env) (hs : SubH H h) : AW P O c Q env h := AW_weaken H1 he hs
theorem tbl_len (t : Nat → Nat → Int) : (tbl t).length = 64 := by unfold tbl; rw [List.length_map, List.length_range]
set_option maxRecDepth 10000 in
set_option maxHeartbeats 32000000 in
theorem loosen_ac (t : Nat → Nat → Int) (ht : Tab8 t S8) : AC Tryz.prog 57 [.ptr 1000 0] (hT t) [1000] (fun r h' => r = .d (.sc (.int .i64 (los8 t).2)) ∧ SubH (hT (los8 t).1) h') := by
  have cr := fun t' (h : Tab8 t' S8) => (ring_ac t' h.sm)
  simp only [ringV_d] at cr
  have cr0 := cr t ht
  have htot := los_bd ht
  have hcnt := cnt_le t
  unfold hT at *
  refine AC_enter Tryz.func57 rfl Tryz.ntmps57 (rv := [.tmp 2]) rfl rfl (by simp) (fun w X G => ?_)
  repeat' (first | ((with_reducible refine gA ?_); (first | refine AW_seq ?_ | refine AW_region ?_ | refine AW_block ?_)) | ((with_reducible refine gS ?_); refine Es_s (T := Tryz.tab) rfl rfl rfl rfl ?_) | (((with_reducible refine gS ?_); apply Es_xg); rfl; rfl; refine LStep_callH [(1000, 1000)] [] cr0 rfl rfl ⟨rfl, trivial⟩ rfl ⟨trivial, trivial⟩; rfl) | (refine Es_skip rfl ?_ rfl ?_; (first | rfl | (refine w_tf ?_; assumption) | (refine w_ft ?_; assumption))) | (((with_reducible refine gS ?_); apply Es_xs); rfl; rfl; refine LStep_allocN (T := Tryz.tab) rfl rfl rfl rfl rfl rfl; rfl) | (((with_reducible refine gS ?_); apply Es_xn); rfl; rfl; (refine LStep_store (T := Tryz.tab) rfl rfl rfl rfl rfl rfl rfl ?_; (refine Nat.le_of_ble_eq_true ?_; rfl)); rfl) | (with_reducible refine Es_nil ?_) | (with_reducible refine then_n ?_))
  refine AW_weaken (E := [(0, .ptr 1000 0), (3, .d (.sc (.int .i64 0))), (4, .ptr 4 0)]) (H := [(1000, some (.cells (tbl t))), (4, some (.cells [.d (ringD (ring8 t))]))]) ?_ (by (repeat' (first | exact trivial | exact rfl | (refine ⟨Or.inl rfl, ?_⟩) | (refine ⟨Or.inr rfl, ?_⟩) | (refine ⟨Or.inr trivial, ?_⟩) | (refine ⟨rfl, ?_⟩) | (refine ⟨?_, ?_⟩)))) (by (repeat' (first | exact trivial | exact rfl | (refine ⟨Or.inl rfl, ?_⟩) | (refine ⟨Or.inr rfl, ?_⟩) | (refine ⟨Or.inr trivial, ?_⟩) | (refine ⟨rfl, ?_⟩) | (refine ⟨?_, ?_⟩))))
  refine AW_forE (S := (Nat → Nat → Int) × Int) (fun z => Tab8 z.1 S8 ∧ 0 ≤ z.2 ∧ z.2 + (los8 z.1).2 = (los8 t).2 ∧ (los8 z.1).1 = (los8 t).1) (fun z => [(3, .d (.sc (.int .i64 z.2)))]) (fun z => [(1000, some (.cells (tbl z.1))), (4, some (.cells [.d (ringD (ring8 z.1))]))]) (fun z => cntR z.1 S8) (t, 0) ⟨ht, by omega, by dsimp only; omega, rfl⟩ (by (repeat' (first | exact trivial | exact rfl | (refine ⟨Or.inl rfl, ?_⟩) | (refine ⟨Or.inr rfl, ?_⟩) | (refine ⟨Or.inr trivial, ?_⟩) | (refine ⟨rfl, ?_⟩) | (refine ⟨?_, ?_⟩)))) (by (repeat' (first | exact trivial | exact rfl | (refine ⟨Or.inl rfl, ?_⟩) | (refine ⟨Or.inr rfl, ?_⟩) | (refine ⟨Or.inr trivial, ?_⟩) | (refine ⟨rfl, ?_⟩) | (refine ⟨?_, ?_⟩)))) ?_
  intro ⟨u, less⟩ ⟨hu, hl0, hl1, hl2⟩
  dsimp only at hu hl0 hl1 hl2 ⊢
  cases hr : ring8 u with
  | none =>
    have hn := losR_none 0 hr
    have e1 : los8 u = (u, 0) := hn
    rw [e1] at hl1 hl2
    dsimp only at hl1 hl2
    rw [show ringD none = D.sc (.slice none 0 0) from rfl]
    repeat' (first | ((with_reducible refine gA ?_); (first | refine AW_seq ?_ | refine AW_region ?_ | refine AW_condF rfl ?_ | refine AW_ret ?_ | refine AW_exit ?_)) | ((with_reducible refine gS ?_); refine Es_s (T := Tryz.tab) rfl rfl rfl rfl ?_) | (((with_reducible refine gS ?_); apply Es_q); rfl; rfl; refine LStep_neqNil0 (T := Tryz.tab) rfl rfl rfl rfl) | (with_reducible refine Es_nil ?_) | (with_reducible refine then_n ?_) | (with_reducible refine then_e ?_) | ((with_reducible refine block_e ?_ ?_); rfl) | ((with_reducible refine gR ?_); first | refine ret1 rfl ?_ | refine ret2 rfl rfl ?_ | refine ret0 ?_ | refine end1 rfl ?_ | refine end0 ?_))
    all_goals first
      | (refine ⟨by rw [← hl1, Int.add_zero], ?_⟩; rw [← hl2]; (repeat' (first | exact trivial | exact rfl | (refine ⟨Or.inl rfl, ?_⟩) | (refine ⟨Or.inr rfl, ?_⟩) | (refine ⟨Or.inr trivial, ?_⟩) | (refine ⟨rfl, ?_⟩) | (refine ⟨?_, ?_⟩))); done)
      | trace_state
  | some r =>
    have hi := ringR_is 0 hr
    have hs := losR_some 0 hu hr
    have hne := hi.ne
    have hpos := List.length_pos_iff.2 hne
    have hlen8 : r.length ≤ 8 := by
      have := nodup_le hi.nd hi.sub
      rwa [List.length_range] at this
    have hcs := cntR_sub hu hi
    have hus := hu.sub hi
    obtain ⟨n1, n2, _⟩ := hi.least hu
    have hless : less ≤ 562949953421312 := by have := (los_bd hu).1; omega
    have hnle : leastR 0 u r ≤ 1099511627776 := (minE_le u (rng 0 r) 1099511627776).1
    have hbd2 := los_bd hus
    have hrn : r.map iN ≠ [] := by simpa using hne
    have hin : ∀ i, i < r.length → (∃ p, r[i]? = some p ∧ p < 8) ∧ nxtN r i < 8 ∧ (rng 0 r)[i]? = some (r.getD i 0, nxtN r i) := fun i hi' => by
      have h1 : r[i]? = some r[i] := List.getElem?_eq_getElem hi'
      refine ⟨⟨_, h1, List.mem_range.1 (hi.sub _ (List.mem_of_getElem? h1))⟩, ?_, rng_get hne hi'⟩
      have := nxt_at hne i
      exact List.mem_range.1 (hi.sub _ (List.mem_of_getElem? this))
    have hnd := rng_nodup 0 hi.nd hne
    have hrl := rng_len 0 r hne
    have hle2 : (los8 u).2 = (los8 (subR u (rng 0 r) (leastR 0 u r))).2 + leastR 0 u r * (r.length : Int) := congrArg (fun z => z.2) hs
    have hle1 : (los8 u).1 = (los8 (subR u (rng 0 r) (leastR 0 u r))).1 := congrArg (fun z => z.1) hs
    have cnx := fun i (h : i ≤ 8) => next_ac r i hne hlen8 h
    unfold hP4 at cnx
    have c0 := cnx 0 (by omega)
    obtain ⟨⟨p0, hp0, hp08⟩, hq0, he0⟩ := hin 0 hpos
    have e00 : r.getD 0 0 = p0 := by rw [List.getD_eq_getElem?_getD, hp0]; rfl
    rw [e00] at he0
    have hm0 := minE_first u he0 (hu.top _ _)
    have ha0 := tbl_at u hp08 hq0
    have b1 : Nat.blt p0 8 = true := by rw [Nat.blt_eq]; exact hp08
    have b2 : Nat.blt (nxtN r 0) 8 = true := by rw [Nat.blt_eq]; exact hq0
    have hp0' : r[(0 : Int).toNat]? = some p0 := hp0
    rw [show ringD (some r) = D.sl 1 (r.map iN) from rfl]
    dsimp only at hm0
    have hn0 : nxtN r 0 = nxtN r 0 := rfl
    generalize hnn : nxtN r 0 = q0 at *
    repeat' (first | ((with_reducible refine gA ?_); (first | refine AW_seq ?_ | refine AW_region ?_ | refine AW_regionD Tryz.mixed ?_ | refine AW_condT rfl ?_ | refine AW_block ?_ | refine AW_skip ?_)) | (first | ((with_reducible refine gS ?_); refine Es_s (T := Tryz.tab) rfl rfl rfl rfl ?_) | ((with_reducible refine gD ?_); refine Ed_s (T := Tryz.tab) rfl rfl rfl rfl ?_)) | ((first | ((with_reducible refine gS ?_); apply Es_q) | ((with_reducible refine gD ?_); apply Ed_q)); rfl; rfl; (first | refine LStep_neqNilS (T := Tryz.tab) rfl rfl rfl rfl hrn | refine LStep_callB c0 rfl rfl ⟨rfl, trivial⟩ rfl rfl | refine LStep_indexPtr (T := Tryz.tab) rfl rfl rfl rfl rfl rfl b1 | refine LStep_indexPtr (T := Tryz.tab) rfl rfl rfl rfl rfl rfl b2 | refine LStep_loadCell (T := Tryz.tab) rfl rfl rfl rfl rfl ha0)) | ((first | ((with_reducible refine gS ?_); apply Es_q) | ((with_reducible refine gD ?_); apply Ed_q)); rfl; rfl; (first | refine LStep_lenM (T := Tryz.tab) rfl rfl rfl rfl | (refine LStep_indexM (T := Tryz.tab) (c := ?_) rfl rfl rfl rfl rfl rfl ?_; rotate_left; assumption))) | (with_reducible refine Es_nil ?_) | ((with_reducible refine Ed_nil ?_ ?_); kernel_rfl) | (with_reducible refine then_n ?_))
    refine AW_forE (S := Nat × Int) (fun z => z.1 ≤ r.length ∧ z.2 = minE u (u p0 q0) ((rng 0 r).take z.1)) (fun z => [(30, .d (.sc (.int .i64 (z.1 : Nat)))), (6, .d (.sc (.int .i64 z.2)))]) (fun _ => []) (fun z => r.length - z.1) (0, u p0 q0) ⟨by dsimp only; omega, rfl⟩ (by (repeat' (first | exact trivial | exact rfl | (refine ⟨Or.inl rfl, ?_⟩) | (refine ⟨Or.inr rfl, ?_⟩) | (refine ⟨Or.inr trivial, ?_⟩) | (refine ⟨rfl, ?_⟩) | (refine ⟨?_, ?_⟩)))) (by (repeat' (first | exact trivial | exact rfl | (refine ⟨Or.inl rfl, ?_⟩) | (refine ⟨Or.inr rfl, ?_⟩) | (refine ⟨Or.inr trivial, ?_⟩) | (refine ⟨rfl, ?_⟩) | (refine ⟨?_, ?_⟩)))) ?_
    intro ⟨i, m⟩ ⟨hi0, him⟩
    dsimp only at hi0 him ⊢
    by_cases hlt : i < r.length
    · obtain ⟨⟨p, hp, hp8⟩, hq, he⟩ := hin i hlt
      have e0 : r.getD i 0 = p := by rw [List.getD_eq_getElem?_getD, hp]; rfl
      rw [e0] at he
      have g1 : ltb ((i : Nat) : Int) ((r.length : Nat) : Int) = true := by rw [ltb_t]; omega
      have c1 := cnx i (by omega)
      have ha := tbl_at u hp8 hq
      have b3 : Nat.blt p 8 = true := by rw [Nat.blt_eq]; exact hp8
      have b4 : Nat.blt (nxtN r i) 8 = true := by rw [Nat.blt_eq]; exact hq
      have hnx : minE u (u p0 q0) ((rng 0 r).take (i + 1)) = minI m (u p (nxtN r i)) := by rw [take_at he, him]; unfold minE; rw [List.foldl_append]; rfl
      generalize nxtN r i = q at *
      repeat' (first | ((with_reducible refine gA ?_); (first | refine AW_seq ?_ | refine AW_region ?_ | refine AW_regionD Tryz.mixed ?_ | (refine AW_condY rfl ?_ ?_; assumption) | refine AW_block ?_ | refine AW_skip ?_)) | (first | ((with_reducible refine gS ?_); refine Es_s (T := Tryz.tab) rfl rfl rfl rfl ?_) | ((with_reducible refine gD ?_); refine Ed_s (T := Tryz.tab) rfl rfl rfl rfl ?_)) | ((first | ((with_reducible refine gS ?_); apply Es_q) | ((with_reducible refine gD ?_); apply Ed_q)); rfl; rfl; (first | refine LStep_callB c1 rfl rfl ⟨rfl, trivial⟩ rfl rfl | refine LStep_indexPtr (T := Tryz.tab) rfl rfl rfl rfl rfl rfl b3 | refine LStep_indexPtr (T := Tryz.tab) rfl rfl rfl rfl rfl rfl b4 | refine LStep_loadCell (T := Tryz.tab) rfl rfl rfl rfl rfl ha | refine LStep_min rfl rfl rfl rfl rfl)) | (((with_reducible refine gS ?_); apply Es_q); rfl; rfl; (first | (refine LStep_add rfl rfl rfl rfl ?_; (refine IntWalk.i64_in _ ?_; first | omega | (simp only [cmps] at *; omega))) | (refine LStep_indexM (T := Tryz.tab) (c := ?_) rfl rfl rfl rfl rfl rfl ?_; rotate_left; assumption))) | (with_reducible refine Es_nil ?_) | ((with_reducible refine Ed_nil ?_ ?_); kernel_rfl) | (with_reducible refine then_n ?_) | (with_reducible refine block_n ?_))
      all_goals first
        | (refine ⟨(i + 1, minI m (u p q)), ?_, by omega, by (repeat' (first | exact trivial | exact rfl | (refine ⟨Or.inl rfl, ?_⟩) | (refine ⟨Or.inr rfl, ?_⟩) | (refine ⟨Or.inr trivial, ?_⟩) | (refine ⟨rfl, ?_⟩) | (refine ⟨?_, ?_⟩))), by (repeat' (first | exact trivial | exact rfl | (refine ⟨Or.inl rfl, ?_⟩) | (refine ⟨Or.inr rfl, ?_⟩) | (refine ⟨Or.inr trivial, ?_⟩) | (refine ⟨rfl, ?_⟩) | (refine ⟨?_, ?_⟩))), by (repeat' (first | exact trivial | exact rfl | (refine ⟨Or.inl rfl, ?_⟩) | (refine ⟨Or.inr rfl, ?_⟩) | (refine ⟨Or.inr trivial, ?_⟩) | (refine ⟨rfl, ?_⟩) | (refine ⟨?_, ?_⟩))), by (repeat' (first | exact trivial | exact rfl | (refine ⟨Or.inl rfl, ?_⟩) | (refine ⟨Or.inr rfl, ?_⟩) | (refine ⟨Or.inr trivial, ?_⟩) | (refine ⟨rfl, ?_⟩) | (refine ⟨?_, ?_⟩)))⟩; exact ⟨by omega, hnx.symm⟩)
        | trace_state
    · have hil : i = r.length := by omega
      subst hil
      have g1 : ltb ((r.length : Nat) : Int) ((r.length : Nat) : Int) = false := by rw [ltb_f]; omega
      rw [← hrl, List.take_length, hm0] at him
      have him' : m = leastR 0 u r := him
      clear him hm0 ha0 c0
      repeat' (first | ((with_reducible refine gA ?_); (first | refine AW_seq ?_ | refine AW_region ?_ | (refine AW_condN rfl ?_ ?_; assumption) | refine AW_block ?_ | refine AW_exit ?_)) | ((with_reducible refine gS ?_); refine Es_s (T := Tryz.tab) rfl rfl rfl rfl ?_) | (((with_reducible refine gS ?_); apply Es_q); rfl; rfl; refine LStep_lenM (T := Tryz.tab) rfl rfl rfl rfl) | (with_reducible refine Es_nil ?_) | (with_reducible refine then_n ?_) | (with_reducible refine then_e ?_) | ((with_reducible refine block_e ?_ ?_); rfl))
      refine AW_forE (S := Nat × Int) (fun z => z.1 ≤ r.length ∧ z.2 = less + m * (z.1 : Int)) (fun z => [(49, .d (.sc (.int .i64 (z.1 : Nat)))), (3, .d (.sc (.int .i64 z.2)))]) (fun z => [(1000, some (.cells (tbl (subR u ((rng 0 r).take z.1) m))))]) (fun z => r.length - z.1) (0, less) ⟨by dsimp only; omega, by dsimp only; omega⟩ (by (repeat' (first | exact trivial | exact rfl | (refine ⟨Or.inl rfl, ?_⟩) | (refine ⟨Or.inr rfl, ?_⟩) | (refine ⟨Or.inr trivial, ?_⟩) | (refine ⟨rfl, ?_⟩) | (refine ⟨?_, ?_⟩)))) (by rw [List.take_zero, subR_nil]; (repeat' (first | exact trivial | exact rfl | (refine ⟨Or.inl rfl, ?_⟩) | (refine ⟨Or.inr rfl, ?_⟩) | (refine ⟨Or.inr trivial, ?_⟩) | (refine ⟨rfl, ?_⟩) | (refine ⟨?_, ?_⟩)))) ?_
      intro ⟨j, L⟩ ⟨hj0, hjL⟩
      dsimp only at hj0 hjL ⊢
      by_cases hltj : j < r.length
      · obtain ⟨⟨p, hp, hp8⟩, hq, he⟩ := hin j hltj
        have e0 : r.getD j 0 = p := by rw [List.getD_eq_getElem?_getD, hp]; rfl
        rw [e0] at he
        have g2 : ltb ((j : Nat) : Int) ((r.length : Nat) : Int) = true := by rw [ltb_t]; omega
        have c1 := cnx j (by omega)
        have b3 : Nat.blt p 8 = true := by rw [Nat.blt_eq]; exact hp8
        have b4 : Nat.blt (nxtN r j) 8 = true := by rw [Nat.blt_eq]; exact hq
        obtain ⟨s1, s2⟩ := subR_snoc (t := u) (n := m) (nodup_take hnd he)
        rw [← take_at he] at s1
        have ha := tbl_at (subR u ((rng 0 r).take j) m) hp8 hq
        rw [s2] at ha
        have hset := tbl_set (subR u ((rng 0 r).take j) m) hp8 hq (u p (nxtN r j) - m)
        rw [← s1] at hset
        have hfit : 0 + p * 8 + nxtN r j * 1 + 1 ≤ (tbl (subR u ((rng 0 r).take j) m)).length := by rw [tbl_len]; omega
        have hub := hu.sm p (nxtN r j)
        have hmj : m * (j : Int) ≤ 1099511627776 * 8 := Int.mul_le_mul (by omega) (by omega) (by omega) (by omega)
        have hmj0 : 0 ≤ m * (j : Int) := Int.mul_nonneg (by omega) (by omega)
        have hLb : 0 ≤ L ∧ L ≤ 1125899906842624 := by omega
        have hLn : L + m = less + m * ((j + 1 : Nat) : Int) := by rw [hjL, Int.natCast_add, Int.mul_add]; omega
        generalize nxtN r j = q at *
        generalize subR u ((rng 0 r).take j) m = U at *
        generalize hU' : subR u ((rng 0 r).take (j + 1)) m = U' at *
        repeat' (first | ((with_reducible refine gA ?_); (first | refine AW_seq ?_ | refine AW_region ?_ | refine AW_regionD Tryz.mixed ?_ | (refine AW_condY rfl ?_ ?_; assumption) | refine AW_block ?_ | refine AW_skip ?_)) | (first | ((with_reducible refine gS ?_); refine Es_s (T := Tryz.tab) rfl rfl rfl rfl ?_) | ((with_reducible refine gD ?_); refine Ed_s (T := Tryz.tab) rfl rfl rfl rfl ?_)) | ((first | ((with_reducible refine gS ?_); apply Es_q) | ((with_reducible refine gD ?_); apply Ed_q)); rfl; rfl; (first | refine LStep_callB c1 rfl rfl ⟨rfl, trivial⟩ rfl rfl | refine LStep_indexPtr (T := Tryz.tab) rfl rfl rfl rfl rfl rfl b3 | refine LStep_indexPtr (T := Tryz.tab) rfl rfl rfl rfl rfl rfl b4 | refine LStep_loadCell (T := Tryz.tab) rfl rfl rfl rfl rfl ha)) | ((first | ((with_reducible refine gS ?_); apply Es_xn) | ((with_reducible refine gD ?_); apply Ed_xn)); rfl; rfl; refine LStep_store (T := Tryz.tab) rfl rfl rfl rfl rfl rfl rfl hfit; rfl) | ((first | ((with_reducible refine gS ?_); apply Es_q) | ((with_reducible refine gD ?_); apply Ed_q)); rfl; rfl; (first | (refine LStep_add rfl rfl rfl rfl ?_; (refine IntWalk.i64_in _ ?_; first | omega | (simp only [cmps] at *; omega))) | (refine LStep_sub rfl rfl rfl rfl ?_; (refine IntWalk.i64_in _ ?_; first | omega | (simp only [cmps] at *; omega))) | (refine LStep_indexM (T := Tryz.tab) (c := ?_) rfl rfl rfl rfl rfl rfl ?_; rotate_left; assumption))) | (with_reducible refine Es_nil ?_) | ((with_reducible refine Ed_nil ?_ ?_); kernel_rfl) | (with_reducible refine then_n ?_) | (with_reducible refine block_n ?_))
        all_goals first
          | (refine ⟨(j + 1, L + m), ⟨by dsimp only; omega, hLn⟩, by dsimp only; omega, by (repeat' (first | exact trivial | exact rfl | (refine ⟨Or.inl rfl, ?_⟩) | (refine ⟨Or.inr rfl, ?_⟩) | (refine ⟨Or.inr trivial, ?_⟩) | (refine ⟨rfl, ?_⟩) | (refine ⟨?_, ?_⟩))), by (repeat' (first | exact trivial | exact rfl | (refine ⟨Or.inl rfl, ?_⟩) | (refine ⟨Or.inr rfl, ?_⟩) | (refine ⟨Or.inr trivial, ?_⟩) | (refine ⟨rfl, ?_⟩) | (refine ⟨?_, ?_⟩))), ?_, by (repeat' (first | exact trivial | exact rfl | (refine ⟨Or.inl rfl, ?_⟩) | (refine ⟨Or.inr rfl, ?_⟩) | (refine ⟨Or.inr trivial, ?_⟩) | (refine ⟨rfl, ?_⟩) | (refine ⟨?_, ?_⟩)))⟩
             dsimp only; rw [hU', ← hset]; (repeat' (first | exact trivial | exact rfl | (refine ⟨Or.inl rfl, ?_⟩) | (refine ⟨Or.inr rfl, ?_⟩) | (refine ⟨Or.inr trivial, ?_⟩) | (refine ⟨rfl, ?_⟩) | (refine ⟨?_, ?_⟩))))
          | trace_state
      · have hjl : j = r.length := by omega
        subst hjl
        have g2 : ltb ((r.length : Nat) : Int) ((r.length : Nat) : Int) = false := by rw [ltb_f]; omega
        rw [← hrl, List.take_length]
        have hm : m * ((r.length : Nat) : Int) ≤ 1099511627776 * 8 := Int.mul_le_mul (by omega) (by omega) (by omega) (by omega)
        have hmm : 0 ≤ m * ((r.length : Nat) : Int) := Int.mul_nonneg (by omega) (by omega)
        rw [← him'] at hcs hus hbd2 hle1 hle2
        have crn := cr (subR u (rng 0 r) m) hus
        have f1 : L + (los8 (subR u (rng 0 r) m)).2 = (los8 t).2 := by omega
        have f2 : (los8 (subR u (rng 0 r) m)).1 = (los8 t).1 := by rw [← hle1]; exact hl2
        have f0 : 0 ≤ L := by omega
        clear cnx hin
        generalize subR u (rng 0 r) m = U at *
        repeat' (first | ((with_reducible refine gA ?_); refine AW_weakG 5 (.fn 110 [.ptr 4 0]) rfl (E := [(0, .ptr 1000 0), (3, .d (.sc (.int .i64 L))), (72, .d (.sl 1 (r.map iN)))]) (H := [(1000, some (.cells (tbl U)))]) ?_ ⟨rfl, rfl, rfl, trivial⟩ ⟨rfl, trivial⟩) | ((with_reducible refine gA ?_); (first | refine AW_seq ?_ | refine AW_region ?_ | (refine AW_cond rfl (fun hc => ?_) (fun hc => ?_) <;> try (exfalso; simp only [cmpL] at hc; omega)) | refine AW_exit ?_)) | ((with_reducible refine gS ?_); refine Es_s (T := Tryz.tab) rfl rfl rfl rfl ?_) | (((with_reducible refine gS ?_); apply Es_xg); rfl; rfl; refine LStep_callH [(1000, 1000)] [] crn rfl rfl ⟨rfl, trivial⟩ rfl ⟨trivial, trivial⟩; rfl) | (refine Es_skip rfl ?_ rfl ?_; (first | rfl | (refine w_tf ?_; assumption) | (refine w_ft ?_; assumption))) | (((with_reducible refine gS ?_); apply Es_xs); rfl; rfl; refine LStep_allocN (T := Tryz.tab) rfl rfl rfl rfl rfl rfl; rfl) | (((with_reducible refine gS ?_); apply Es_xn); rfl; rfl; (first | (refine LStep_storeN (T := Tryz.tab) rfl rfl rfl rfl rfl rfl rfl ?_ rfl; (refine Nat.le_of_ble_eq_true ?_; rfl)) | (refine LStep_store (T := Tryz.tab) rfl rfl rfl rfl rfl rfl rfl ?_; (refine Nat.le_of_ble_eq_true ?_; rfl))); rfl) | (with_reducible refine Es_nil ?_) | (with_reducible refine then_n ?_) | (with_reducible refine then_e ?_) | (with_reducible refine block_n ?_) | ((with_reducible refine block_e ?_ ?_); rfl))
        all_goals first
          | (refine ⟨(U, L), ⟨hus, f0, f1, f2⟩, hcs, by (repeat' (first | exact trivial | exact rfl | (refine ⟨Or.inl rfl, ?_⟩) | (refine ⟨Or.inr rfl, ?_⟩) | (refine ⟨Or.inr trivial, ?_⟩) | (refine ⟨rfl, ?_⟩) | (refine ⟨?_, ?_⟩))), by (repeat' (first | exact trivial | exact rfl | (refine ⟨Or.inl rfl, ?_⟩) | (refine ⟨Or.inr rfl, ?_⟩) | (refine ⟨Or.inr trivial, ?_⟩) | (refine ⟨rfl, ?_⟩) | (refine ⟨?_, ?_⟩))), by (repeat' (first | exact trivial | exact rfl | (refine ⟨Or.inl rfl, ?_⟩) | (refine ⟨Or.inr rfl, ?_⟩) | (refine ⟨Or.inr trivial, ?_⟩) | (refine ⟨rfl, ?_⟩) | (refine ⟨?_, ?_⟩))), by (repeat' (first | exact trivial | exact rfl | (refine ⟨Or.inl rfl, ?_⟩) | (refine ⟨Or.inr rfl, ?_⟩) | (refine ⟨Or.inr trivial, ?_⟩) | (refine ⟨rfl, ?_⟩) | (refine ⟨?_, ?_⟩)))⟩; done)
          | trace_state
end Go.Proofs.YtofdnkgieigncaaGreat
