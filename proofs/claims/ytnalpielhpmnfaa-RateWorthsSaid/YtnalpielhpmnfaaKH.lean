import Derived.Test.YtnalpielhpmnfaaKF
import Derived.Test.YtnalpielhpmnfaaSp
namespace Go.Proofs.Ytnalpielhpmnfaa
open Go.SL
/-! ### Position: plain -/
def cods (es : List En) : List ByteArray := es.foldl (fun c e => putS c e.2.1) []
theorem cods_snoc (es : List En) (e : En) : cods (es ++ [e]) = putS (cods es) e.2.1 := by unfold cods; rw [List.foldl_append]; rfl
theorem cods_ss (es : List En) : SS (cods es) := by
  refine list_snocR (C := fun es => SS (cods es)) es List.Pairwise.nil (fun es e ih => ?_)
  rw [cods_snoc]
  exact (putS_spec ih _).1
theorem cods_len (es : List En) : (cods es).length ≤ es.length := by
  refine list_snocR (C := fun es => (cods es).length ≤ es.length) es (by simp [cods]) (fun es e ih => ?_)
  rw [cods_snoc, List.length_append]
  have := putS_len (cods es) e.2.1
  simp only [List.length_cons, List.length_nil]
  omega
def sumE (es : List En) (c : ByteArray) : Int := es.foldl (fun a e => if e.2.1 = c then wrp .i64 (a + e.2.2) else a) 0
theorem sumE_snoc (es : List En) (e : En) (c : ByteArray) : sumE (es ++ [e]) c = if e.2.1 = c then wrp .i64 (sumE es c + e.2.2) else sumE es c := by unfold sumE; rw [List.foldl_append]; rfl
def posM (es : List En) : List (ByteArray × Int) := es.foldl (fun M e => aput e.2.1 (wrp .i64 (((aget e.2.1 M).getD 0) + e.2.2)) M) []
theorem posM_snoc (es : List En) (e : En) : posM (es ++ [e]) = aput e.2.1 (wrp .i64 (((aget e.2.1 (posM es)).getD 0) + e.2.2)) (posM es) := by unfold posM; rw [List.foldl_append]; rfl
theorem posM_spec (es : List En) : (akeys (posM es)).Nodup ∧ (∀ c, c ∈ cods es → aget c (posM es) = some (sumE es c)) ∧ ∀ c, c ∉ cods es → aget c (posM es) = none ∧ sumE es c = 0 := by
  refine list_snocR (C := fun es => (akeys (posM es)).Nodup ∧ (∀ c, c ∈ cods es → aget c (posM es) = some (sumE es c)) ∧ ∀ c, c ∉ cods es → aget c (posM es) = none ∧ sumE es c = 0) es ⟨List.nodup_nil, fun c h => (by cases h), fun c _ => ⟨rfl, rfl⟩⟩ (fun es e ih => ?_)
  obtain ⟨i1, i2, i3⟩ := ih
  have hm := (putS_spec (cods_ss es) e.2.1).2
  rw [posM_snoc, cods_snoc]
  have hg : (aget e.2.1 (posM es)).getD 0 = sumE es e.2.1 := by
    by_cases h : e.2.1 ∈ cods es
    · rw [i2 _ h]; rfl
    · rw [(i3 _ h).1, (i3 _ h).2]; rfl
  refine ⟨nodup_put i1, fun c hc => ?_, fun c hc => ?_⟩
  · rw [aget_put, sumE_snoc, hg]
    by_cases h : e.2.1 = c
    · subst h
      rw [if_pos rfl, if_pos rfl]
    · rw [if_neg h, if_neg h]
      rcases (hm c).1 hc with q | q
      · exact absurd q.symm h
      · exact i2 c q
  · have h : ¬ e.2.1 = c := fun q => hc ((hm c).2 (.inl q.symm))
    rw [aget_put, sumE_snoc, if_neg h, if_neg h]
    exact i3 c (fun q => hc ((hm c).2 (.inr q)))
theorem posM_len (es : List En) : (posM es).length ≤ es.length := by
  refine list_snocR (C := fun es => (posM es).length ≤ es.length) es (by simp [posM]) (fun es e ih => ?_)
  rw [posM_snoc, List.length_append]
  have := aput_len e.2.1 (wrp .i64 (((aget e.2.1 (posM es)).getD 0) + e.2.2)) (posM es)
  simp only [List.length_cons, List.length_nil]
  omega
def enM (p : ByteArray × Int) : List D := [.sc (.string p.1), .sc (.int .i64 p.2)]
def posF (es : List En) (c : ByteArray) : List (ByteArray × Int) := if sumE es c ≠ 0 then [(c, sumE es c)] else []
/-- the sums by currency, rising, that are not 0 -/
def posR (es : List En) : List (ByteArray × Int) := (cods es).flatMap (posF es)
theorem posR_mem (es : List En) (p : ByteArray × Int) : p ∈ posR es ↔ p.1 ∈ cods es ∧ p.2 = sumE es p.1 ∧ p.2 ≠ 0 := by
  unfold posR
  rw [List.mem_flatMap]
  constructor
  · rintro ⟨c, hc, h⟩
    unfold posF at h
    split at h
    · rename_i h0
      rw [List.mem_singleton.1 h]
      exact ⟨hc, rfl, h0⟩
    · cases h
  · rintro ⟨h1, h2, h3⟩
    refine ⟨p.1, h1, ?_⟩
    unfold posF
    rw [if_pos (by rw [← h2]; exact h3), List.mem_singleton]
    exact Prod.ext rfl h2
theorem fm_sorted (es : List En) : ∀ C : List ByteArray, SS C → (C.flatMap (posF es)).Pairwise fun a b => lts a.1 b.1 = true
  | [], _ => List.Pairwise.nil
  | c :: C, h => by
    unfold SS at h
    rw [List.pairwise_cons] at h
    rw [List.flatMap_cons, List.pairwise_append]
    have hin : ∀ x ∈ posF es c, x.1 = c := fun x hx => by
      unfold posF at hx
      split at hx
      · rw [List.mem_singleton.1 hx]
      · cases hx
    refine ⟨?_, fm_sorted es C h.2, fun x hx y hy => ?_⟩
    · unfold posF; split <;> simp
    · rw [hin x hx]
      obtain ⟨d, hd, hy⟩ := List.mem_flatMap.1 hy
      have : y.1 = d := by
        unfold posF at hy
        split at hy
        · rw [List.mem_singleton.1 hy]
        · cases hy
      rw [this]
      exact h.1 d hd
theorem posR_sorted (es : List En) : (posR es).Pairwise fun a b => lts a.1 b.1 = true := fm_sorted es _ (cods_ss es)
theorem posR_perm (es : List En) {v : List (ByteArray × Int)} (hv : v.Perm ((posM es).filter fun p => decide (p.2 ≠ 0))) : (posR es).Perm v := by
  obtain ⟨h1, h2, h3⟩ := posM_spec es
  have nM : (posM es).Nodup := (List.pairwise_map.1 h1).imp (fun h e => h (congrArg _ e))
  have nR : (posR es).Nodup := (posR_sorted es).imp (fun {a b} h e => by rw [e, lts_irrefl] at h; cases h)
  refine ((List.perm_ext_iff_of_nodup nR (List.Pairwise.filter _ nM)).2 (fun p => ?_)).trans hv.symm
  rw [posR_mem, List.mem_filter, decide_eq_true_eq]
  constructor
  · rintro ⟨a, b, c⟩
    refine ⟨?_, c⟩
    have := h2 p.1 a
    rw [← b] at this
    exact aget_mem this
  · rintro ⟨a, c⟩
    have := aget_of_mem h1 (show (p.1, p.2) ∈ posM es from a)
    by_cases hc : p.1 ∈ cods es
    · rw [h2 _ hc] at this
      exact ⟨hc, (Option.some.inj this).symm, c⟩
    · rw [(h3 _ hc).1] at this
      cases this
theorem posR_len (es : List En) : (posR es).length ≤ es.length := by
  have := (posR_perm es (List.Perm.refl _)).length_eq
  have h2 := List.length_filter_le (fun p : ByteArray × Int => decide (p.2 ≠ 0)) (posM es)
  have := posM_len es
  omega
/-! ### cmp at strings; the sort -/
theorem isNaNs_ac (a : ByteArray) : AC Try.prog 65 [.d (.sc (.string a))] [] [] (fun r _ => r = .d (.sc (.bool false))) := by
  refine AC_enter Try.func65 rfl Try.ntmps65 (rv := [.tmp 2]) rfl rfl (by simp) (fun w X G => ?_)
  repeat' (first | ((with_reducible refine gA ?_); (first | refine AW_seq ?_ | refine AW_region ?_ | refine AW_ret ?_)) | (((with_reducible refine gS ?_); apply Es_q); rfl; rfl; refine LStep_neqSF rfl rfl rfl rfl rfl) | ((with_reducible refine gS ?_); refine Es_s (T := Try.tab) rfl rfl rfl rfl ?_) | (with_reducible refine Es_nil ?_) | (with_reducible refine then_n ?_) | ((with_reducible refine gR ?_); first | refine ret1 rfl ?_ | refine ret2 rfl rfl ?_ | refine ret0 ?_ | refine end1 rfl ?_ | refine end0 ?_))
  rfl
set_option maxRecDepth 10000 in
theorem compareS_ac (a b : ByteArray) : AC Try.prog 51 [.d (.sc (.string a)), .d (.sc (.string b))] [] [] (fun r _ => r = .d (.sc (.int .i64 (cmpS a b)))) := by
  refine AC_enter Try.func51 rfl Try.ntmps51 (rv := [.tmp 4]) rfl rfl (by simp) (fun w X G => ?_)
  repeat' (first | ((with_reducible refine gA ?_); (first | refine AW_seq ?_ | refine AW_region ?_ | refine AW_condF rfl ?_ | (refine AW_cond rfl (fun hc => ?_) (fun hc => ?_) <;> try (exfalso; simp only [cmpL] at hc; omega)) | refine AW_ret ?_ | refine AW_skip ?_)) | ((with_reducible refine gS ?_); refine Es_s (T := Try.tab) rfl rfl rfl rfl ?_) | (((with_reducible refine gS ?_); apply Es_q); rfl; rfl; (first | refine LStep_call (isNaNs_ac _) rfl rfl rfl rfl | refine LStep_gtrS rfl rfl rfl rfl)) | (with_reducible refine Es_nil ?_) | (with_reducible refine then_n ?_) | (with_reducible refine then_r ?_) | ((with_reducible refine gR ?_); first | refine ret1 rfl ?_ | refine ret2 rfl rfl ?_ | refine ret0 ?_ | refine end1 rfl ?_ | refine end0 ?_))
  · have h : lts a b = true := by assumption
    rw [cmpS, if_pos h]
  · have h : lts a b = false := by assumption
    have h2 : lts b a = true := by assumption
    rw [cmpS, if_neg (by rw [h]; simp), if_pos h2]
  · have h : lts a b = false := by assumption
    have h2 : lts b a = false := by assumption
    rw [cmpS, if_neg (by rw [h]; simp), if_neg (by rw [h2]; simp)]
def curD (x : List D) : ByteArray := match x with
  | .sc (.string s) :: _ => s
  | _ => ByteArray.empty
def cmpMn (x y : List D) : Int := cmpS (curD x) (curD y)
theorem ltOf_cmpMn (x y : List D) : ltOf cmpMn x y = lts (curD x) (curD y) := by
  unfold ltOf cmpMn cmpS
  cases h1 : lts (curD x) (curD y) <;> cases h2 : lts (curD y) (curD x) <;> simp
theorem swoMn : Sort.SWO (ltOf cmpMn) :=
  ⟨fun x => by rw [ltOf_cmpMn]; exact lts_irrefl _, fun x y z h1 h2 => by rw [ltOf_cmpMn] at *; exact lts_trans h1 h2, fun x y z h1 h2 => by rw [ltOf_cmpMn] at *; exact lts_ntrans h1 h2⟩
set_option maxRecDepth 10000 in
theorem position1_ac (p q : ByteArray × Int) : AC Try.prog 50 [.agg ((enM p).map .d), .agg ((enM q).map .d)] [] [] (fun r _ => r = .d (.sc (.int .i64 (cmpMn (enM p) (enM q))))) := by
  have e : cmpMn (enM p) (enM q) = cmpS p.1 q.1 := rfl
  rw [e]
  unfold enM
  refine AC_enter Try.func50 rfl Try.ntmps50 (rv := [.tmp 4]) rfl rfl (by simp) (fun w X G => ?_)
  repeat' (first | ((with_reducible refine gA ?_); (first | refine AW_seq ?_ | refine AW_region ?_ | refine AW_ret ?_)) | ((with_reducible refine gS ?_); refine Es_s (T := Try.tab) rfl rfl rfl rfl ?_) | (((with_reducible refine gS ?_); apply Es_q); rfl; rfl; refine LStep_call (compareS_ac _ _) rfl rfl rfl rfl) | (refine Es_skip rfl ?_ rfl ?_; (first | rfl | (refine w_tf ?_; assumption) | (refine w_ft ?_; assumption))) | (((with_reducible refine gS ?_); apply Es_xs); rfl; rfl; refine LStep_boxN rfl rfl rfl rfl rfl rfl; rfl) | (with_reducible refine Es_nil ?_) | (with_reducible refine then_n ?_) | ((with_reducible refine gR ?_); first | refine ret1 rfl ?_ | refine ret2 rfl rfl ?_ | refine ret0 ?_ | refine end1 rfl ?_ | refine end0 ?_))
  all_goals first
    | rfl
    | trace_state
theorem sortP_ac (es : List En) (he : es.length ≤ 30) (v : List (ByteArray × Int)) (hv : v.Perm ((posM es).filter fun p => decide (p.2 ≠ 0))) : AC Try.prog 49 [.own 1000 v.length, .fn 50 []] (H0 40 2 (v.map enM)) [1000] (fun r h' => r = .tup [] ∧ SubH (H0 40 2 ((posR es).map enM)) h') :=
  sortFunc_ac Try.sortMoneys 2 Try.isAgg40 Try.sizeOf40 (callable_of Try.func49 rfl rfl) (callable_of Try.func50 rfl rfl)
    40 v.length (v.map enM) ((posR es).map enM) cmpMn swoMn (List.length_map _).symm (by rw [List.length_map, ← (posR_perm es hv).length_eq]; have := posR_len es; omega)
    (fun x hx y hy => by
      obtain ⟨p, _, rfl⟩ := List.mem_map.1 hx
      obtain ⟨q, _, rfl⟩ := List.mem_map.1 hy
      exact position1_ac p q)
    ((posR_perm es hv).map _) (List.pairwise_map.2 ((posR_sorted es).imp (fun h => by rw [ltOf_cmpMn]; exact lts_asymm h)))
    (fun x hx y hy h1 h2 => by
      obtain ⟨p, hp1, rfl⟩ := List.mem_map.1 hx
      obtain ⟨q, hq1, rfl⟩ := List.mem_map.1 hy
      rw [ltOf_cmpMn] at h1 h2
      have e : p.1 = q.1 := lts_tri h1 h2
      obtain ⟨_, e1, _⟩ := (posR_mem es p).1 ((posR_perm es hv).mem_iff.2 hp1)
      obtain ⟨_, e2, _⟩ := (posR_mem es q).1 ((posR_perm es hv).mem_iff.2 hq1)
      rw [show p = q from Prod.ext e (by rw [e1, e2, e])])
end Go.Proofs.Ytnalpielhpmnfaa
namespace Go.Proofs.Ytnalpielhpmnfaa
open Go.SL
/-! ### Position: the program's and the document's -/
def nzF (v : List (ByteArray × Int)) : List (ByteArray × Int) := v.filter fun p => decide (p.2 ≠ 0)
theorem perm_midK {α : Type} {acc a b m : List α} {p : α} (hp : (acc ++ (a ++ p :: b)).Perm m) : ((acc ++ [p]) ++ (a ++ b)).Perm m := by
  refine List.Perm.trans ?_ hp
  rw [List.append_assoc]
  exact List.Perm.append_left acc (by simpa using (List.perm_middle (a := p) (l₁ := a) (l₂ := b)).symm)
set_option maxRecDepth 10000 in
set_option maxHeartbeats 8000000 in
theorem position_ac (es : List En) (he : es.length ≤ 30) : AC Try.prog 25 [.d (.sl 3 (es.map enE))] [] [] (fun r _ => r = .d (.sl 2 ((posR es).map enM))) := by
  have hnd := (posM_spec es).1
  have hkA := emap_nodup (cv := iV) sV_inj hnd
  have hln := posM_len es
  refine AC_enter Try.func25 rfl Try.ntmps25 (rv := [.tmp 2]) rfl rfl (by simp) (fun w X G => ?_)
  repeat' (first | ((with_reducible refine gA ?_); (first | refine AW_seq ?_ | refine AW_region ?_ | refine AW_block ?_)) | ((with_reducible refine gS ?_); refine Es_s (T := Try.tab) rfl rfl rfl rfl ?_) | (((with_reducible refine gS ?_); apply Es_xs); rfl; rfl; refine lstep_makeMapT (T := Try.tab) rfl rfl rfl rfl rfl; rfl) | (((with_reducible refine gS ?_); apply Es_q); rfl; rfl; refine LStep_lenM (T := Try.tab) rfl rfl rfl rfl) | (with_reducible refine Es_nil ?_) | (with_reducible refine then_n ?_))
  refine AW_forE (S := Nat) (fun k => k ≤ es.length) (fun k => [(12, .d (.sc (.int .i64 (k : Nat))))]) (fun k => [(9, some (.map 9 2 (emap sV iV (posM (es.take k))) none))]) (fun k => es.length - k) 0 (by omega) (by (repeat' (first | exact trivial | exact rfl | (refine ⟨Or.inl rfl, ?_⟩) | (refine ⟨Or.inr rfl, ?_⟩) | (refine ⟨Or.inr trivial, ?_⟩) | (refine ⟨rfl, ?_⟩) | (refine ⟨?_, ?_⟩)))) (by (repeat' (first | exact trivial | exact rfl | (refine ⟨Or.inl rfl, ?_⟩) | (refine ⟨Or.inr rfl, ?_⟩) | (refine ⟨Or.inr trivial, ?_⟩) | (refine ⟨rfl, ?_⟩) | (refine ⟨?_, ?_⟩)))) ?_
  intro k hk
  by_cases hlt : k < es.length
  · obtain ⟨e, hx, _⟩ := drop_at hlt
    have hs := posM_snoc (es.take k) e
    rw [← take_at hx] at hs
    have hml := st_keys (cv := iV) (posM (es.take k))
    have hput := mput_emap (cv := iV) sV_keq e.2.1 (wrp .i64 (((aget e.2.1 (posM (es.take k))).getD 0) + e.2.2)) (posM (es.take k))
    rw [← hs] at hput
    obtain ⟨ea, ec, en⟩ := e
    dsimp only at hput
    cases hget : aget ec (posM (es.take k)) with
    | some n =>
      have hf := mget_some (cv := iV) sV_keq hget
      rw [hget] at hput
      repeat' (first | ((with_reducible refine gA ?_); (first | refine AW_seq ?_ | refine AW_region ?_ | (refine AW_cond rfl (fun hc => ?_) (fun hc => ?_) <;> try (exfalso; simp only [cmpL] at hc; omega)) | refine AW_block ?_ | refine AW_skip ?_)) | ((with_reducible refine gS ?_); refine Es_s (T := Try.tab) rfl rfl rfl rfl ?_) | (((with_reducible refine gS ?_); apply Es_q); rfl; rfl; refine LStep_lookup (T := Try.tab) rfl rfl rfl rfl rfl rfl rfl rfl hml hf) | (((with_reducible refine gS ?_); apply Es_xn); rfl; rfl; refine LStep_mapUpdate (T := Try.tab) rfl rfl rfl rfl rfl rfl rfl rfl rfl hml rfl; rfl) | (((with_reducible refine gS ?_); apply Es_q); rfl; rfl; (first | (refine LStep_add rfl rfl rfl rfl ?_; (refine IntWalk.i64_in _ ?_; first | omega | (simp only [cmps] at *; omega))) | refine LStep_wrap (T := Try.tab) rfl rfl | (refine LStep_indexM (T := Try.tab) (c := ?_) rfl rfl rfl rfl rfl rfl ?_; rotate_left; assumption))) | (refine Es_skip rfl ?_ rfl ?_; (first | rfl | (refine w_tf ?_; assumption) | (refine w_ft ?_; assumption))) | (((with_reducible refine gS ?_); apply Es_xs); rfl; rfl; refine LStep_allocN (T := Try.tab) rfl rfl rfl rfl rfl rfl; rfl) | (((with_reducible refine gS ?_); apply Es_xn); rfl; rfl; (refine LStep_storeN (T := Try.tab) rfl rfl rfl rfl rfl rfl rfl ?_ rfl; (refine Nat.le_of_ble_eq_true ?_; rfl)); rfl) | (with_reducible refine Es_nil ?_) | (with_reducible refine then_n ?_) | (with_reducible refine block_n ?_))
      all_goals try simp only [cmps] at *
      all_goals first
        | (exfalso; omega)
        | (refine ⟨k + 1, by omega, by omega, by (repeat' (first | exact trivial | exact rfl | (refine ⟨Or.inl rfl, ?_⟩) | (refine ⟨Or.inr rfl, ?_⟩) | (refine ⟨Or.inr trivial, ?_⟩) | (refine ⟨rfl, ?_⟩) | (refine ⟨?_, ?_⟩))), by (repeat' (first | exact trivial | exact rfl | (refine ⟨Or.inl rfl, ?_⟩) | (refine ⟨Or.inr rfl, ?_⟩) | (refine ⟨Or.inr trivial, ?_⟩) | (refine ⟨rfl, ?_⟩) | (refine ⟨?_, ?_⟩))), ?_, by (repeat' (first | exact trivial | exact rfl | (refine ⟨Or.inl rfl, ?_⟩) | (refine ⟨Or.inr rfl, ?_⟩) | (refine ⟨Or.inr trivial, ?_⟩) | (refine ⟨rfl, ?_⟩) | (refine ⟨?_, ?_⟩)))⟩; rw [← hput]; (repeat' (first | exact trivial | exact rfl | (refine ⟨Or.inl rfl, ?_⟩) | (refine ⟨Or.inr rfl, ?_⟩) | (refine ⟨Or.inr trivial, ?_⟩) | (refine ⟨rfl, ?_⟩) | (refine ⟨?_, ?_⟩))); done)
        | trace_state
    | none =>
      have hf := mget_no (cv := iV) sV_keq hget
      rw [hget] at hput
      repeat' (first | ((with_reducible refine gA ?_); (first | refine AW_seq ?_ | refine AW_region ?_ | (refine AW_cond rfl (fun hc => ?_) (fun hc => ?_) <;> try (exfalso; simp only [cmpL] at hc; omega)) | refine AW_block ?_ | refine AW_skip ?_)) | ((with_reducible refine gS ?_); refine Es_s (T := Try.tab) rfl rfl rfl rfl ?_) | (((with_reducible refine gS ?_); apply Es_q); rfl; rfl; refine LStep_lookup0 (T := Try.tab) rfl rfl rfl rfl rfl rfl rfl rfl hml rfl rfl hf) | (((with_reducible refine gS ?_); apply Es_xn); rfl; rfl; refine LStep_mapUpdate (T := Try.tab) rfl rfl rfl rfl rfl rfl rfl rfl rfl hml rfl; rfl) | (((with_reducible refine gS ?_); apply Es_q); rfl; rfl; (first | (refine LStep_add rfl rfl rfl rfl ?_; (refine IntWalk.i64_in _ ?_; first | omega | (simp only [cmps] at *; omega))) | refine LStep_wrap (T := Try.tab) rfl rfl | (refine LStep_indexM (T := Try.tab) (c := ?_) rfl rfl rfl rfl rfl rfl ?_; rotate_left; assumption))) | (refine Es_skip rfl ?_ rfl ?_; (first | rfl | (refine w_tf ?_; assumption) | (refine w_ft ?_; assumption))) | (((with_reducible refine gS ?_); apply Es_xs); rfl; rfl; refine LStep_allocN (T := Try.tab) rfl rfl rfl rfl rfl rfl; rfl) | (((with_reducible refine gS ?_); apply Es_xn); rfl; rfl; (refine LStep_storeN (T := Try.tab) rfl rfl rfl rfl rfl rfl rfl ?_ rfl; (refine Nat.le_of_ble_eq_true ?_; rfl)); rfl) | (with_reducible refine Es_nil ?_) | (with_reducible refine then_n ?_) | (with_reducible refine block_n ?_))
      all_goals try simp only [cmps] at *
      all_goals first
        | (exfalso; omega)
        | (refine ⟨k + 1, by omega, by omega, by (repeat' (first | exact trivial | exact rfl | (refine ⟨Or.inl rfl, ?_⟩) | (refine ⟨Or.inr rfl, ?_⟩) | (refine ⟨Or.inr trivial, ?_⟩) | (refine ⟨rfl, ?_⟩) | (refine ⟨?_, ?_⟩))), by (repeat' (first | exact trivial | exact rfl | (refine ⟨Or.inl rfl, ?_⟩) | (refine ⟨Or.inr rfl, ?_⟩) | (refine ⟨Or.inr trivial, ?_⟩) | (refine ⟨rfl, ?_⟩) | (refine ⟨?_, ?_⟩))), ?_, by (repeat' (first | exact trivial | exact rfl | (refine ⟨Or.inl rfl, ?_⟩) | (refine ⟨Or.inr rfl, ?_⟩) | (refine ⟨Or.inr trivial, ?_⟩) | (refine ⟨rfl, ?_⟩) | (refine ⟨?_, ?_⟩)))⟩; rw [← hput]; (repeat' (first | exact trivial | exact rfl | (refine ⟨Or.inl rfl, ?_⟩) | (refine ⟨Or.inr rfl, ?_⟩) | (refine ⟨Or.inr trivial, ?_⟩) | (refine ⟨rfl, ?_⟩) | (refine ⟨?_, ?_⟩))); done)
        | trace_state
  · have hkl : k = es.length := by omega
    subst hkl
    rw [List.take_length]
    have cs := sortP_ac es he
    have hpl := fun v h => (posR_perm es (v := v) h).length_eq
    generalize posM es = M at *
    repeat' (first | ((with_reducible refine gA ?_); (first | refine AW_seq ?_ | refine AW_region ?_ | (refine AW_cond rfl (fun hc => ?_) (fun hc => ?_) <;> try (exfalso; simp only [cmpL] at hc; omega)) | refine AW_block ?_ | refine AW_exit ?_)) | ((with_reducible refine gS ?_); refine Es_s (T := Try.tab) rfl rfl rfl rfl ?_) | (((with_reducible refine gS ?_); apply Es_xg); rfl; rfl; refine LStep_range (T := Try.tab) rfl rfl rfl rfl rfl rfl rfl; rfl) | (with_reducible refine Es_nil ?_) | (with_reducible refine then_n ?_) | (with_reducible refine then_e ?_) | ((with_reducible refine block_e ?_ ?_); rfl))
    refine AW_openNil (t := 6) (id := 2000) (e := 40) (sz := 2) rfl rfl rfl rfl ?_
    refine AW_forE (S := List (ByteArray × Int) × List (ByteArray × Int) × Option Value) (fun t => (t.2.1 ++ t.1).Perm M) (fun t => [(6, .own 2000 (nzF t.2.1).length)])
      (fun t => [(9, some (.map 9 2 (emap sV iV M) (some (25, (emap sV iV t.1).map (·.1), t.2.2)))), (2000, some (.arr 40 2 ((nzF t.2.1).map enM)))]) (fun s => s.1.length) (M, [], none) (List.Perm.refl _) (by (repeat' (first | exact trivial | exact rfl | (refine ⟨Or.inl rfl, ?_⟩) | (refine ⟨Or.inr rfl, ?_⟩) | (refine ⟨Or.inr trivial, ?_⟩) | (refine ⟨rfl, ?_⟩) | (refine ⟨?_, ?_⟩)))) (by (repeat' (first | exact trivial | exact rfl | (refine ⟨Or.inl rfl, ?_⟩) | (refine ⟨Or.inr rfl, ?_⟩) | (refine ⟨Or.inr trivial, ?_⟩) | (refine ⟨rfl, ?_⟩) | (refine ⟨?_, ?_⟩)))) ?_
    intro ⟨mt, acc, cur⟩ hp
    dsimp only at hp ⊢
    have hla : acc.length ≤ 30 := by have := hp.length_eq; simp only [List.length_append] at this; omega
    have hnz : (nzF acc).length ≤ acc.length := List.length_filter_le _ _
    have hn3 : ((emap sV iV mt).map (·.1)).Nodup := by
      have h1 : (emap sV iV (acc ++ mt)).Perm (emap sV iV M) := hp.map _
      have h2 := (h1.map (·.1)).nodup_iff.2 hkA
      rw [etodo_join, List.nodup_append] at h2
      exact h2.2.1
    refine AW_seq ?_
    refine AW_region ?_
    refine Es_next 9 rfl rfl rfl rfl rfl rfl hkA hn3 (fun h0 => ?_) (fun pre k post h0 => ?_)
    rotate_left
    · obtain ⟨a, p, b, rfl, rfl, rfl, rfl⟩ := etodo_split h0
      have hpm : p ∈ M := hp.mem_iff.1 (by simp)
      have hmem : (sV p.1, iV p.2) ∈ emap sV iV M := List.mem_map.2 ⟨p, hpm, rfl⟩
      obtain ⟨c, n⟩ := p
      by_cases hz : n = 0
      · subst hz
        have hF : nzF (acc ++ [(c, 0)]) = nzF acc := by unfold nzF; rw [List.filter_append]; simp
        repeat' (first | ((with_reducible refine gA ?_); (first | refine AW_seq ?_ | refine AW_region ?_ | refine AW_condT rfl ?_ | (refine AW_cond rfl (fun hc => ?_) (fun hc => ?_) <;> try (exfalso; simp only [cmpL] at hc; omega)) | refine AW_block ?_ | refine AW_skip ?_)) | ((with_reducible refine gS ?_); refine Es_s (T := Try.tab) rfl rfl rfl rfl ?_) | (((with_reducible refine gS ?_); apply Es_q); rfl; rfl; refine LStep_entry (kav := .d (.sc (.string c))) 9 hmem rfl rfl rfl rfl hkA (s_rep c)) | (with_reducible refine Es_nil ?_) | (with_reducible refine then_n ?_) | (with_reducible refine block_n ?_))
        all_goals try simp only [cmps] at *
        all_goals first
          | (exfalso; omega)
          | (exfalso; contradiction)
          | (refine ⟨(a ++ b, acc ++ [(c, 0)], some (sV c)), perm_midK hp, by simp, ?_, by (repeat' (first | exact trivial | exact rfl | (refine ⟨Or.inl rfl, ?_⟩) | (refine ⟨Or.inr rfl, ?_⟩) | (refine ⟨Or.inr trivial, ?_⟩) | (refine ⟨rfl, ?_⟩) | (refine ⟨?_, ?_⟩))), ?_, by (repeat' (first | exact trivial | exact rfl | (refine ⟨Or.inl rfl, ?_⟩) | (refine ⟨Or.inr rfl, ?_⟩) | (refine ⟨Or.inr trivial, ?_⟩) | (refine ⟨rfl, ?_⟩) | (refine ⟨?_, ?_⟩)))⟩ <;> dsimp only <;> rw [hF] <;> (try rw [etodo_join]) <;> (repeat' (first | exact trivial | exact rfl | (refine ⟨Or.inl rfl, ?_⟩) | (refine ⟨Or.inr rfl, ?_⟩) | (refine ⟨Or.inr trivial, ?_⟩) | (refine ⟨rfl, ?_⟩) | (refine ⟨?_, ?_⟩))); done)
          | trace_state
      · have hF : nzF (acc ++ [(c, n)]) = nzF acc ++ [(c, n)] := by unfold nzF; rw [List.filter_append]; simp [hz]
        have hE : (nzF (acc ++ [(c, n)])).map enM = (nzF acc).map enM ++ [[.sc (.string c), .sc (.int .i64 n)]] := by rw [hF, List.map_append]; rfl
        have hL : (nzF (acc ++ [(c, n)])).length = ((nzF acc).map enM ++ [[D.sc (.string c), D.sc (.int .i64 n)]]).length := by rw [hF]; simp
        repeat' (first | ((with_reducible refine gA ?_); (first | refine AW_seq ?_ | refine AW_region ?_ | refine AW_condT rfl ?_ | (refine AW_cond rfl (fun hc => ?_) (fun hc => ?_) <;> try (exfalso; simp only [cmpL] at hc; omega)) | refine AW_block ?_ | refine AW_skip ?_)) | ((with_reducible refine gS ?_); refine Es_s (T := Try.tab) rfl rfl rfl rfl ?_) | (((with_reducible refine gS ?_); apply Es_q); rfl; rfl; refine LStep_entry (kav := .d (.sc (.string c))) 9 hmem rfl rfl rfl rfl hkA (s_rep c)) | (((with_reducible refine gS ?_); apply Es_xs); rfl; rfl; (refine LStep_append (T := Try.tab) rfl rfl rfl rfl rfl rfl rfl rfl rfl rfl ?_ ?_ ?_; exact (List.length_map _).symm; (rw [List.length_map]; simp only [List.length_cons, List.length_nil]; omega); (unfold maxLen; rw [List.length_map]; simp only [List.length_cons, List.length_nil]; omega)); rfl) | (((with_reducible refine gS ?_); apply Es_q); rfl; rfl; (first | (refine LStep_lit (T := Try.tab) rfl rfl rfl rfl rfl rfl rfl rfl ?_; (refine Nat.le_of_ble_eq_true ?_; rfl)) | refine LStep_buildN (T := Try.tab) rfl rfl rfl rfl rfl rfl rfl)) | (with_reducible refine Es_nil ?_) | (with_reducible refine then_n ?_) | (with_reducible refine block_n ?_))
        all_goals try simp only [cmps] at *
        all_goals first
          | (exfalso; omega)
          | (exfalso; contradiction)
          | (refine ⟨(a ++ b, acc ++ [(c, n)], some (sV c)), perm_midK hp, by simp, ?_, by (repeat' (first | exact trivial | exact rfl | (refine ⟨Or.inl rfl, ?_⟩) | (refine ⟨Or.inr rfl, ?_⟩) | (refine ⟨Or.inr trivial, ?_⟩) | (refine ⟨rfl, ?_⟩) | (refine ⟨?_, ?_⟩))), ?_, by (repeat' (first | exact trivial | exact rfl | (refine ⟨Or.inl rfl, ?_⟩) | (refine ⟨Or.inr rfl, ?_⟩) | (refine ⟨Or.inr trivial, ?_⟩) | (refine ⟨rfl, ?_⟩) | (refine ⟨?_, ?_⟩)))⟩
             · dsimp only; rw [hL]; (repeat' (first | exact trivial | exact rfl | (refine ⟨Or.inl rfl, ?_⟩) | (refine ⟨Or.inr rfl, ?_⟩) | (refine ⟨Or.inr trivial, ?_⟩) | (refine ⟨rfl, ?_⟩) | (refine ⟨?_, ?_⟩)))
             · dsimp only; rw [etodo_join, hE]; (repeat' (first | exact trivial | exact rfl | (refine ⟨Or.inl rfl, ?_⟩) | (refine ⟨Or.inr rfl, ?_⟩) | (refine ⟨Or.inr trivial, ?_⟩) | (refine ⟨rfl, ?_⟩) | (refine ⟨?_, ?_⟩))))
          | trace_state
    have hm0 := etodo_nil h0
    subst hm0
    rw [List.append_nil] at hp
    have hvp : (nzF acc).Perm (M.filter fun p => decide (p.2 ≠ 0)) := hp.filter _
    have cv := cs (nzF acc) hvp
    have hll : ((nzF acc).map enM).length = ((posR es).map enM).length := by rw [List.length_map, List.length_map, hpl _ hvp]
    have hl2 : ((posR es).map enM).length = (nzF acc).length := by rw [← hll, List.length_map]
    repeat' (first | ((with_reducible refine gRc ?_); first | refine AW_noIt 9 rfl ?_ | refine AW_freeze [2] (id := 2000) ⟨rfl, trivial⟩ rfl hl2 ?_) | ((with_reducible refine gA ?_); (first | refine AW_seq ?_ | refine AW_region ?_ | refine AW_condF rfl ?_ | refine AW_ret ?_ | refine AW_exit ?_)) | ((with_reducible refine gS ?_); refine Es_s (T := Try.tab) rfl rfl rfl rfl ?_) | (((with_reducible refine gS ?_); apply Es_xg); rfl; rfl; refine LStep_callHN [(1000, 2000)] [] cv rfl rfl ⟨rfl, trivial⟩ rfl ⟨hll, trivial⟩ rfl rfl; rfl) | (with_reducible refine Es_nil ?_) | (with_reducible refine then_n ?_) | (with_reducible refine then_e ?_) | ((with_reducible refine block_e ?_ ?_); rfl) | ((with_reducible refine gR ?_); first | refine ret1 rfl ?_ | refine ret2 rfl rfl ?_ | refine ret0 ?_ | refine end1 rfl ?_ | refine end0 ?_))
    all_goals first
      | rfl
      | trace_state
set_option maxRecDepth 10000 in
set_option maxHeartbeats 8000000 in
theorem rPosition_ac (es : List En) (he : es.length ≤ 30) : AC Try.prog 26 [.d (.sl 3 (es.map enE))] [] [] (fun r _ => r = .d (.sl 2 ((posR es).map enM))) := by
  refine AC_enter Try.func26 rfl Try.ntmps26 (rv := [.tmp 2]) rfl rfl (by simp) (fun w X G => ?_)
  repeat' (first | ((with_reducible refine gA ?_); (first | refine AW_seq ?_ | refine AW_region ?_ | refine AW_block ?_)) | ((with_reducible refine gS ?_); refine Es_s (T := Try.tab) rfl rfl rfl rfl ?_) | (((with_reducible refine gS ?_); apply Es_q); rfl; rfl; (refine LStep_lit (T := Try.tab) rfl rfl rfl rfl rfl rfl rfl rfl ?_; (refine Nat.le_of_ble_eq_true ?_; rfl))) | (with_reducible refine Es_nil ?_) | (with_reducible refine then_n ?_))
  refine AW_forE (S := Nat) (fun k => k ≤ es.length) (fun k => [(4, .d (.sc (.int .i64 (k : Nat)))), (3, .d (.sl 1 ((cods (es.take k)).map sN)))]) (fun _ => []) (fun k => es.length - k) 0 (by omega) (by (repeat' (first | exact trivial | exact rfl | (refine ⟨Or.inl rfl, ?_⟩) | (refine ⟨Or.inr rfl, ?_⟩) | (refine ⟨Or.inr trivial, ?_⟩) | (refine ⟨rfl, ?_⟩) | (refine ⟨?_, ?_⟩)))) (by (repeat' (first | exact trivial | exact rfl | (refine ⟨Or.inl rfl, ?_⟩) | (refine ⟨Or.inr rfl, ?_⟩) | (refine ⟨Or.inr trivial, ?_⟩) | (refine ⟨rfl, ?_⟩) | (refine ⟨?_, ?_⟩)))) ?_
  intro k hk
  by_cases hlt : k < es.length
  · obtain ⟨e, hx, _⟩ := drop_at hlt
    have hs := cods_snoc (es.take k) e
    rw [← take_at hx] at hs
    have hcl := cods_len (es.take k)
    rw [List.length_take] at hcl
    have cp := rPut_ac (cods (es.take k)) e.2.1 (by omega)
    rw [← hs] at cp
    obtain ⟨ea, ec, en⟩ := e
    dsimp only at cp
    repeat' (first | ((with_reducible refine gA ?_); (first | refine AW_seq ?_ | refine AW_region ?_ | (refine AW_cond rfl (fun hc => ?_) (fun hc => ?_) <;> try (exfalso; simp only [cmpL] at hc; omega)) | refine AW_block ?_ | refine AW_skip ?_)) | ((with_reducible refine gS ?_); refine Es_s (T := Try.tab) rfl rfl rfl rfl ?_) | (((with_reducible refine gS ?_); apply Es_q); rfl; rfl; refine LStep_call (cp) rfl rfl rfl rfl) | (((with_reducible refine gS ?_); apply Es_q); rfl; rfl; (first | refine LStep_lenM (T := Try.tab) rfl rfl rfl rfl | (refine LStep_add rfl rfl rfl rfl ?_; (refine IntWalk.i64_in _ ?_; first | omega | (simp only [cmps] at *; omega))) | (refine LStep_indexM (T := Try.tab) (c := ?_) rfl rfl rfl rfl rfl rfl ?_; rotate_left; assumption))) | (with_reducible refine Es_nil ?_) | (with_reducible refine then_n ?_) | (with_reducible refine block_n ?_))
    all_goals try simp only [cmps] at *
    all_goals first
      | (exfalso; omega)
      | (refine ⟨k + 1, ?_, by omega, by (repeat' (first | exact trivial | exact rfl | (refine ⟨Or.inl rfl, ?_⟩) | (refine ⟨Or.inr rfl, ?_⟩) | (refine ⟨Or.inr trivial, ?_⟩) | (refine ⟨rfl, ?_⟩) | (refine ⟨?_, ?_⟩))), by (repeat' (first | exact trivial | exact rfl | (refine ⟨Or.inl rfl, ?_⟩) | (refine ⟨Or.inr rfl, ?_⟩) | (refine ⟨Or.inr trivial, ?_⟩) | (refine ⟨rfl, ?_⟩) | (refine ⟨?_, ?_⟩))), by (repeat' (first | exact trivial | exact rfl | (refine ⟨Or.inl rfl, ?_⟩) | (refine ⟨Or.inr rfl, ?_⟩) | (refine ⟨Or.inr trivial, ?_⟩) | (refine ⟨rfl, ?_⟩) | (refine ⟨?_, ?_⟩))), by (repeat' (first | exact trivial | exact rfl | (refine ⟨Or.inl rfl, ?_⟩) | (refine ⟨Or.inr rfl, ?_⟩) | (refine ⟨Or.inr trivial, ?_⟩) | (refine ⟨rfl, ?_⟩) | (refine ⟨?_, ?_⟩)))⟩; omega)
      | trace_state
  · have hkl : k = es.length := by omega
    subst hkl
    rw [List.take_length]
    have hcl := cods_len es
    have hR : posR es = (cods es).flatMap (posF es) := rfl
    rw [hR]
    generalize cods es = C at *
    have hfl : ∀ A : List ByteArray, (A.flatMap (posF es)).length ≤ A.length := fun A => by
      induction A with
      | nil => simp
      | cons c A ih =>
        rw [List.flatMap_cons, List.length_append, List.length_cons]
        have : (posF es c).length ≤ 1 := by unfold posF; split <;> simp
        omega
    repeat' (first | ((with_reducible refine gA ?_); (first | refine AW_seq ?_ | refine AW_region ?_ | (refine AW_cond rfl (fun hc => ?_) (fun hc => ?_) <;> try (exfalso; simp only [cmpL] at hc; omega)) | refine AW_block ?_ | refine AW_exit ?_)) | ((with_reducible refine gS ?_); refine Es_s (T := Try.tab) rfl rfl rfl rfl ?_) | (((with_reducible refine gS ?_); apply Es_xs); rfl; rfl; (refine LStep_litOwn (T := Try.tab) (len := 0) rfl rfl rfl rfl rfl rfl rfl rfl rfl rfl ?_ ?_; (refine Nat.le_of_ble_eq_true ?_; rfl); (unfold maxLen; omega)); rfl) | (((with_reducible refine gS ?_); apply Es_q); rfl; rfl; refine LStep_lenM (T := Try.tab) rfl rfl rfl rfl) | (with_reducible refine Es_nil ?_) | (with_reducible refine then_n ?_) | (with_reducible refine then_e ?_) | ((with_reducible refine block_e ?_ ?_); rfl))
    refine AW_forE (S := Nat × List (List D)) (fun z => z.1 ≤ C.length ∧ z.2.length ≤ z.1 ∧ z.2 = ((C.take z.1).flatMap (posF es)).map enM) (fun z => [(27, .d (.sc (.int .i64 (z.1 : Nat)))), (5, .own 24 z.2.length)]) (fun z => [(24, some (.arr 40 2 z.2))]) (fun z => C.length - z.1) (0, []) ⟨by omega, by simp, by simp⟩ (by (repeat' (first | exact trivial | exact rfl | (refine ⟨Or.inl rfl, ?_⟩) | (refine ⟨Or.inr rfl, ?_⟩) | (refine ⟨Or.inr trivial, ?_⟩) | (refine ⟨rfl, ?_⟩) | (refine ⟨?_, ?_⟩)))) (by (repeat' (first | exact trivial | exact rfl | (refine ⟨Or.inl rfl, ?_⟩) | (refine ⟨Or.inr rfl, ?_⟩) | (refine ⟨Or.inr trivial, ?_⟩) | (refine ⟨rfl, ?_⟩) | (refine ⟨?_, ?_⟩)))) ?_
    intro ⟨k, E⟩ ⟨hk, hEl, hE⟩
    dsimp only at hk hEl hE ⊢
    by_cases hlt2 : k < C.length
    · obtain ⟨c, hc, _⟩ := drop_at hlt2
      have hnx := fm_take (g := posF es) hc
      repeat' (first | ((with_reducible refine gA ?_); (first | refine AW_seq ?_ | refine AW_region ?_ | (refine AW_cond rfl (fun hc => ?_) (fun hc => ?_) <;> try (exfalso; simp only [cmpL] at hc; omega)) | refine AW_block ?_ | refine AW_skip ?_)) | ((with_reducible refine gS ?_); refine Es_s (T := Try.tab) rfl rfl rfl rfl ?_) | (((with_reducible refine gS ?_); apply Es_q); rfl; rfl; (refine LStep_indexM (T := Try.tab) (c := ?_) rfl rfl rfl rfl rfl rfl ?_; rotate_left; assumption)) | (with_reducible refine Es_nil ?_) | (with_reducible refine then_n ?_))
      all_goals try simp only [cmps] at *
      all_goals try (exfalso; omega)
      refine AW_forE (S := Nat) (fun j => j ≤ es.length) (fun j => [(9, .d (.sc (.int .i64 (j : Nat)))), (8, .d (.sc (.int .i64 (sumE (es.take j) c))))]) (fun _ => []) (fun j => es.length - j) 0 (by omega) (by (repeat' (first | exact trivial | exact rfl | (refine ⟨Or.inl rfl, ?_⟩) | (refine ⟨Or.inr rfl, ?_⟩) | (refine ⟨Or.inr trivial, ?_⟩) | (refine ⟨rfl, ?_⟩) | (refine ⟨?_, ?_⟩)))) (by (repeat' (first | exact trivial | exact rfl | (refine ⟨Or.inl rfl, ?_⟩) | (refine ⟨Or.inr rfl, ?_⟩) | (refine ⟨Or.inr trivial, ?_⟩) | (refine ⟨rfl, ?_⟩) | (refine ⟨?_, ?_⟩)))) ?_
      intro j hj
      by_cases hlj : j < es.length
      · obtain ⟨e, hx, _⟩ := drop_at hlj
        have hs := sumE_snoc (es.take j) e c
        rw [← take_at hx] at hs
        obtain ⟨ea, ec, en⟩ := e
        dsimp only at hs
        by_cases hec : ec = c
        · rw [if_pos hec] at hs
          repeat' (first | ((with_reducible refine gA ?_); (first | refine AW_seq ?_ | refine AW_region ?_ | (refine AW_cond rfl (fun hc => ?_) (fun hc => ?_) <;> try (exfalso; simp only [cmpL] at hc; omega)) | refine AW_block ?_ | refine AW_skip ?_)) | ((with_reducible refine gS ?_); refine Es_s (T := Try.tab) rfl rfl rfl rfl ?_) | (((with_reducible refine gS ?_); apply Es_q); rfl; rfl; (first | refine LStep_lenM (T := Try.tab) rfl rfl rfl rfl | (refine LStep_add rfl rfl rfl rfl ?_; (refine IntWalk.i64_in _ ?_; first | omega | (simp only [cmps] at *; omega))) | refine LStep_wrap (T := Try.tab) rfl rfl | (refine LStep_indexM (T := Try.tab) (c := ?_) rfl rfl rfl rfl rfl rfl ?_; rotate_left; assumption))) | (with_reducible refine Es_nil ?_) | (with_reducible refine then_n ?_) | (with_reducible refine block_n ?_))
          all_goals try simp only [cmps] at *
          all_goals first
            | (exfalso; omega)
            | (exfalso; contradiction)
            | (refine ⟨j + 1, by omega, by omega, ?_, by (repeat' (first | exact trivial | exact rfl | (refine ⟨Or.inl rfl, ?_⟩) | (refine ⟨Or.inr rfl, ?_⟩) | (refine ⟨Or.inr trivial, ?_⟩) | (refine ⟨rfl, ?_⟩) | (refine ⟨?_, ?_⟩))), by (repeat' (first | exact trivial | exact rfl | (refine ⟨Or.inl rfl, ?_⟩) | (refine ⟨Or.inr rfl, ?_⟩) | (refine ⟨Or.inr trivial, ?_⟩) | (refine ⟨rfl, ?_⟩) | (refine ⟨?_, ?_⟩))), by (repeat' (first | exact trivial | exact rfl | (refine ⟨Or.inl rfl, ?_⟩) | (refine ⟨Or.inr rfl, ?_⟩) | (refine ⟨Or.inr trivial, ?_⟩) | (refine ⟨rfl, ?_⟩) | (refine ⟨?_, ?_⟩)))⟩; rw [hs]; (repeat' (first | exact trivial | exact rfl | (refine ⟨Or.inl rfl, ?_⟩) | (refine ⟨Or.inr rfl, ?_⟩) | (refine ⟨Or.inr trivial, ?_⟩) | (refine ⟨rfl, ?_⟩) | (refine ⟨?_, ?_⟩))); done)
            | trace_state
        · rw [if_neg hec] at hs
          repeat' (first | ((with_reducible refine gA ?_); (first | refine AW_seq ?_ | refine AW_region ?_ | (refine AW_cond rfl (fun hc => ?_) (fun hc => ?_) <;> try (exfalso; simp only [cmpL] at hc; omega)) | refine AW_block ?_ | refine AW_skip ?_)) | ((with_reducible refine gS ?_); refine Es_s (T := Try.tab) rfl rfl rfl rfl ?_) | (((with_reducible refine gS ?_); apply Es_q); rfl; rfl; (first | refine LStep_lenM (T := Try.tab) rfl rfl rfl rfl | (refine LStep_add rfl rfl rfl rfl ?_; (refine IntWalk.i64_in _ ?_; first | omega | (simp only [cmps] at *; omega))) | refine LStep_wrap (T := Try.tab) rfl rfl | (refine LStep_indexM (T := Try.tab) (c := ?_) rfl rfl rfl rfl rfl rfl ?_; rotate_left; assumption))) | (with_reducible refine Es_nil ?_) | (with_reducible refine then_n ?_) | (with_reducible refine block_n ?_))
          all_goals try simp only [cmps] at *
          all_goals first
            | (exfalso; omega)
            | (exfalso; contradiction)
            | (refine ⟨j + 1, by omega, by omega, ?_, by (repeat' (first | exact trivial | exact rfl | (refine ⟨Or.inl rfl, ?_⟩) | (refine ⟨Or.inr rfl, ?_⟩) | (refine ⟨Or.inr trivial, ?_⟩) | (refine ⟨rfl, ?_⟩) | (refine ⟨?_, ?_⟩))), by (repeat' (first | exact trivial | exact rfl | (refine ⟨Or.inl rfl, ?_⟩) | (refine ⟨Or.inr rfl, ?_⟩) | (refine ⟨Or.inr trivial, ?_⟩) | (refine ⟨rfl, ?_⟩) | (refine ⟨?_, ?_⟩))), by (repeat' (first | exact trivial | exact rfl | (refine ⟨Or.inl rfl, ?_⟩) | (refine ⟨Or.inr rfl, ?_⟩) | (refine ⟨Or.inr trivial, ?_⟩) | (refine ⟨rfl, ?_⟩) | (refine ⟨?_, ?_⟩)))⟩; rw [hs]; (repeat' (first | exact trivial | exact rfl | (refine ⟨Or.inl rfl, ?_⟩) | (refine ⟨Or.inr rfl, ?_⟩) | (refine ⟨Or.inr trivial, ?_⟩) | (refine ⟨rfl, ?_⟩) | (refine ⟨?_, ?_⟩))); done)
            | trace_state
      · have hjl : j = es.length := by omega
        subst hjl
        rw [List.take_length]
        have hpf : posF es c = if sumE es c ≠ 0 then [(c, sumE es c)] else [] := rfl
        generalize sumE es c = n at *
        by_cases hz : n = 0
        · rw [if_neg (by omega)] at hpf
          repeat' (first | ((with_reducible refine gA ?_); (first | refine AW_seq ?_ | refine AW_region ?_ | (refine AW_cond rfl (fun hc => ?_) (fun hc => ?_) <;> try (exfalso; simp only [cmpL] at hc; omega)) | refine AW_skip ?_ | refine AW_exit ?_)) | ((with_reducible refine gS ?_); refine Es_s (T := Try.tab) rfl rfl rfl rfl ?_) | (((with_reducible refine gS ?_); apply Es_q); rfl; rfl; (first | refine LStep_lenM (T := Try.tab) rfl rfl rfl rfl | (refine LStep_add rfl rfl rfl rfl ?_; (refine IntWalk.i64_in _ ?_; first | omega | (simp only [cmps] at *; omega))))) | (with_reducible refine Es_nil ?_) | (with_reducible refine then_n ?_) | (with_reducible refine then_e ?_) | (with_reducible refine block_n ?_) | ((with_reducible refine block_e ?_ ?_); rfl))
          all_goals try simp only [cmps] at *
          all_goals first
            | (exfalso; omega)
            | (exfalso; contradiction)
            | (refine ⟨(k + 1, E), ?_, by omega, by (repeat' (first | exact trivial | exact rfl | (refine ⟨Or.inl rfl, ?_⟩) | (refine ⟨Or.inr rfl, ?_⟩) | (refine ⟨Or.inr trivial, ?_⟩) | (refine ⟨rfl, ?_⟩) | (refine ⟨?_, ?_⟩))), by (repeat' (first | exact trivial | exact rfl | (refine ⟨Or.inl rfl, ?_⟩) | (refine ⟨Or.inr rfl, ?_⟩) | (refine ⟨Or.inr trivial, ?_⟩) | (refine ⟨rfl, ?_⟩) | (refine ⟨?_, ?_⟩))), by (repeat' (first | exact trivial | exact rfl | (refine ⟨Or.inl rfl, ?_⟩) | (refine ⟨Or.inr rfl, ?_⟩) | (refine ⟨Or.inr trivial, ?_⟩) | (refine ⟨rfl, ?_⟩) | (refine ⟨?_, ?_⟩))), by (repeat' (first | exact trivial | exact rfl | (refine ⟨Or.inl rfl, ?_⟩) | (refine ⟨Or.inr rfl, ?_⟩) | (refine ⟨Or.inr trivial, ?_⟩) | (refine ⟨rfl, ?_⟩) | (refine ⟨?_, ?_⟩)))⟩; exact ⟨by omega, by (dsimp only; omega), by (rw [hnx, hpf, hE]; simp)⟩)
            | trace_state
        · rw [if_pos hz] at hpf
          repeat' (first | ((with_reducible refine gA ?_); (first | refine AW_seq ?_ | refine AW_region ?_ | (refine AW_cond rfl (fun hc => ?_) (fun hc => ?_) <;> try (exfalso; simp only [cmpL] at hc; omega)) | refine AW_exit ?_)) | ((with_reducible refine gS ?_); refine Es_s (T := Try.tab) rfl rfl rfl rfl ?_) | (((with_reducible refine gS ?_); apply Es_xs); rfl; rfl; (refine LStep_append (T := Try.tab) rfl rfl rfl rfl rfl rfl rfl rfl rfl rfl ?_ ?_ ?_; rfl; (simp only [List.length_cons, List.length_nil]; omega); (unfold maxLen; simp only [List.length_cons, List.length_nil]; omega)); rfl) | (((with_reducible refine gS ?_); apply Es_q); rfl; rfl; (first | refine LStep_lenM (T := Try.tab) rfl rfl rfl rfl | (refine LStep_add rfl rfl rfl rfl ?_; (refine IntWalk.i64_in _ ?_; first | omega | (simp only [cmps] at *; omega))) | (refine LStep_lit (T := Try.tab) rfl rfl rfl rfl rfl rfl rfl rfl ?_; (refine Nat.le_of_ble_eq_true ?_; rfl)) | refine LStep_buildN (T := Try.tab) rfl rfl rfl rfl rfl rfl rfl)) | (with_reducible refine Es_nil ?_) | (with_reducible refine then_n ?_) | (with_reducible refine then_e ?_) | (with_reducible refine block_n ?_) | ((with_reducible refine block_e ?_ ?_); rfl))
          all_goals try simp only [cmps] at *
          all_goals first
            | (exfalso; omega)
            | (exfalso; contradiction)
            | (refine ⟨(k + 1, E ++ [enM (c, n)]), ?_, by omega, by (repeat' (first | exact trivial | exact rfl | (refine ⟨Or.inl rfl, ?_⟩) | (refine ⟨Or.inr rfl, ?_⟩) | (refine ⟨Or.inr trivial, ?_⟩) | (refine ⟨rfl, ?_⟩) | (refine ⟨?_, ?_⟩))), by (repeat' (first | exact trivial | exact rfl | (refine ⟨Or.inl rfl, ?_⟩) | (refine ⟨Or.inr rfl, ?_⟩) | (refine ⟨Or.inr trivial, ?_⟩) | (refine ⟨rfl, ?_⟩) | (refine ⟨?_, ?_⟩))), by (repeat' (first | exact trivial | exact rfl | (refine ⟨Or.inl rfl, ?_⟩) | (refine ⟨Or.inr rfl, ?_⟩) | (refine ⟨Or.inr trivial, ?_⟩) | (refine ⟨rfl, ?_⟩) | (refine ⟨?_, ?_⟩))), by (repeat' (first | exact trivial | exact rfl | (refine ⟨Or.inl rfl, ?_⟩) | (refine ⟨Or.inr rfl, ?_⟩) | (refine ⟨Or.inr trivial, ?_⟩) | (refine ⟨rfl, ?_⟩) | (refine ⟨?_, ?_⟩)))⟩; exact ⟨by omega, by (simp only [List.length_append, List.length_cons, List.length_nil]; omega), by (rw [hnx, hpf, hE]; simp)⟩)
            | trace_state
    · have hkl : k = C.length := by omega
      subst hkl
      rw [List.take_length] at hE
      rw [← hE]
      repeat' (first | ((with_reducible refine gRc ?_); refine AW_freeze [2] (id := 24) ⟨rfl, trivial⟩ rfl rfl ?_) | ((with_reducible refine gA ?_); (first | refine AW_seq ?_ | refine AW_region ?_ | (refine AW_cond rfl (fun hc => ?_) (fun hc => ?_) <;> try (exfalso; simp only [cmpL] at hc; omega)) | refine AW_ret ?_ | refine AW_exit ?_)) | ((with_reducible refine gS ?_); refine Es_s (T := Try.tab) rfl rfl rfl rfl ?_) | (with_reducible refine Es_nil ?_) | (with_reducible refine then_n ?_) | (with_reducible refine then_e ?_) | ((with_reducible refine block_e ?_ ?_); rfl) | ((with_reducible refine gR ?_); first | refine ret1 rfl ?_ | refine ret2 rfl rfl ?_ | refine ret0 ?_ | refine end1 rfl ?_ | refine end0 ?_))
      all_goals try simp only [cmps] at *
      all_goals first
        | (exfalso; omega)
        | rfl
        | trace_state
end Go.Proofs.Ytnalpielhpmnfaa
namespace Go.Proofs.Ytnalpielhpmnfaa
open Go.SL
/-! ### RateWorths -/
set_option maxRecDepth 10000 in
set_option maxHeartbeats 16000000 in
theorem worths_ac (l : List RP) (es : List En) (c : ByteArray) (day : Int) (hl : l.length ≤ 140737488351232) (hs : ∀ x ∈ l, x.1.1.size ≤ 140737488351232 ∧ x.1.2.1.size ≤ 140737488351232) (hes : es.length ≤ 140737488351232) (hse : ∀ x ∈ es, x.1.size ≤ 140737488351232 ∧ x.2.1.size ≤ 140737488351232) (hc : c.size ≤ 140737488351232) :
    AC Try.prog 9 [.d (.sl 5 (l.map rEnc)), .d (.sl 3 (es.map enE)), .d (.sc (.string c)), .d (.sc (.int .i64 day))] [] [] (fun r _ => r = .d (.sc (.bool true))) := by
  have c0 := awake_ac
  have c1 := long_ac l hl hs
  cases hlg : longB l with
  | true =>
    rw [hlg] at c1
    refine AC_enter Try.func9 rfl Try.ntmps9 (rv := [.tmp 8]) rfl rfl (by simp) (fun w X G => ?_)
    repeat' (first | ((with_reducible refine gA ?_); (first | refine AW_seq ?_ | refine AW_region ?_ | refine AW_condT rfl ?_ | refine AW_ret ?_)) | ((with_reducible refine gS ?_); refine Es_s (T := Try.tab) rfl rfl rfl rfl ?_) | (((with_reducible refine gS ?_); apply Es_q); rfl; rfl; (first | refine LStep_call (c0) rfl rfl rfl rfl | refine LStep_call (c1) rfl rfl rfl rfl)) | (refine Es_skip rfl ?_ rfl ?_; (first | rfl | (refine w_tf ?_; assumption) | (refine w_ft ?_; assumption))) | (with_reducible refine Es_nil ?_) | (with_reducible refine then_n ?_) | (with_reducible refine then_r ?_) | ((with_reducible refine gR ?_); first | refine ret1 rfl ?_ | refine ret2 rfl rfl ?_ | refine ret0 ?_ | refine end1 rfl ?_ | refine end0 ?_))
    all_goals try simp only at *
    all_goals first
      | rfl
      | trace_state
  | false =>
    rw [hlg] at c1
    obtain ⟨hl1, _⟩ := longB_f hlg
    by_cases hgo : es.length ≤ 30 ∧ c.size ≤ 60
    · obtain ⟨he, hcs⟩ := hgo
      have g1 : ltb 30 ((es.length : Nat) : Int) = false := by rw [ltb_f]; omega
      have g2 : ltb 60 ((c.size : Nat) : Int) = false := by rw [ltb_f]; omega
      have cf := fill_ac l hl1
      obtain ⟨hi, hal⟩ := accR_all l
      generalize accR l = A at *
      have cw := worth_ac A es c day hi (by omega) he
      have cr := rWorth_ac A es c day hi (by omega) he
      have cp := position_ac es he
      have cq := rPosition_ac es he
      have hpl := posR_len es
      generalize posR es = Pq at *
      generalize worthR A es c day = W at *
      obtain ⟨w1, w2⟩ := W
      unfold woV at cw cr
      dsimp only at cw cr
      unfold hR2 at cf
      unfold hR at cw
      refine AC_enter Try.func9 rfl Try.ntmps9 (rv := [.tmp 8]) rfl rfl (by simp) (fun w X G => ?_)
      repeat' (first | ((with_reducible refine gA ?_); (first | refine AW_seq ?_ | refine AW_region ?_ | (refine AW_condN rfl ?_ ?_; assumption) | refine AW_block ?_ | refine AW_skip ?_)) | ((with_reducible refine gS ?_); refine Es_s (T := Try.tab) rfl rfl rfl rfl ?_) | (((with_reducible refine gS ?_); apply Es_q); rfl; (first | rfl | (refine w_ff ?_; assumption)); refine LStep_call (c1) rfl rfl rfl rfl) | (((with_reducible refine gS ?_); apply Es_q); rfl; (first | rfl | (refine w_ff ?_; assumption)); (first | refine LStep_simp (T := Try.tab) rfl rfl | refine LStep_lenM (T := Try.tab) rfl rfl rfl rfl | refine LStep_wrap (T := Try.tab) rfl rfl | (refine LStep_pickF rfl rfl ?_ rfl rfl; assumption))) | (with_reducible refine Es_nil ?_) | (with_reducible refine then_n ?_))
      refine AW_forE (S := Nat) (fun k => k ≤ es.length) (fun k => [(35, .d (.sc (.int .i64 (k : Nat))))]) (fun _ => []) (fun k => es.length - k) 0 (by omega) (by (repeat' (first | exact trivial | exact rfl | (refine ⟨Or.inl rfl, ?_⟩) | (refine ⟨Or.inr rfl, ?_⟩) | (refine ⟨Or.inr trivial, ?_⟩) | (refine ⟨rfl, ?_⟩) | (refine ⟨?_, ?_⟩)))) (by (repeat' (first | exact trivial | exact rfl | (refine ⟨Or.inl rfl, ?_⟩) | (refine ⟨Or.inr rfl, ?_⟩) | (refine ⟨Or.inr trivial, ?_⟩) | (refine ⟨rfl, ?_⟩) | (refine ⟨?_, ?_⟩)))) ?_
      intro k hk
      by_cases hlt : k < es.length
      · obtain ⟨e, hx, _⟩ := drop_at hlt
        have hsx := hse e (List.mem_of_getElem? hx)
        obtain ⟨ea, ec, en⟩ := e
        dsimp only at hsx
        repeat' (first | ((with_reducible refine gA ?_); (first | refine AW_seq ?_ | refine AW_region ?_ | (refine AW_cond rfl (fun hc => ?_) (fun hc => ?_) <;> try (exfalso; simp only [cmpL] at hc; omega)) | refine AW_block ?_ | refine AW_ret ?_ | refine AW_skip ?_)) | ((with_reducible refine gS ?_); refine Es_s (T := Try.tab) rfl rfl rfl rfl ?_) | (((with_reducible refine gS ?_); apply Es_q); rfl; rfl; refine LStep_call (c0) rfl rfl rfl rfl) | (((with_reducible refine gS ?_); apply Es_q); rfl; rfl; (first | (refine LStep_add rfl rfl rfl rfl ?_; (refine IntWalk.i64_in _ ?_; first | omega | (simp only [cmps] at *; omega))) | refine LStep_wrap (T := Try.tab) rfl rfl | (refine LStep_indexM (T := Try.tab) (c := ?_) rfl rfl rfl rfl rfl rfl ?_; rotate_left; assumption))) | (refine Es_skip rfl ?_ rfl ?_; (first | rfl | (refine w_tf ?_; assumption) | (refine w_ft ?_; assumption))) | (((with_reducible refine gS ?_); apply Es_xs); rfl; rfl; refine LStep_allocN (T := Try.tab) rfl rfl rfl rfl rfl rfl; rfl) | (((with_reducible refine gS ?_); apply Es_xn); rfl; rfl; (refine LStep_storeN (T := Try.tab) rfl rfl rfl rfl rfl rfl rfl ?_ rfl; (refine Nat.le_of_ble_eq_true ?_; rfl)); rfl) | (with_reducible refine Es_nil ?_) | (with_reducible refine then_n ?_) | (with_reducible refine then_r ?_) | (with_reducible refine block_n ?_) | (with_reducible refine block_r ?_) | ((with_reducible refine gR ?_); first | refine ret1 rfl ?_ | refine ret2 rfl rfl ?_ | refine ret0 ?_ | refine end1 rfl ?_ | refine end0 ?_))
        all_goals try simp only [cmps] at *
        all_goals first
          | (exfalso; omega)
          | rfl
          | (refine ⟨k + 1, ?_, by omega, by (repeat' (first | exact trivial | exact rfl | (refine ⟨Or.inl rfl, ?_⟩) | (refine ⟨Or.inr rfl, ?_⟩) | (refine ⟨Or.inr trivial, ?_⟩) | (refine ⟨rfl, ?_⟩) | (refine ⟨?_, ?_⟩))), by (repeat' (first | exact trivial | exact rfl | (refine ⟨Or.inl rfl, ?_⟩) | (refine ⟨Or.inr rfl, ?_⟩) | (refine ⟨Or.inr trivial, ?_⟩) | (refine ⟨rfl, ?_⟩) | (refine ⟨?_, ?_⟩))), by (repeat' (first | exact trivial | exact rfl | (refine ⟨Or.inl rfl, ?_⟩) | (refine ⟨Or.inr rfl, ?_⟩) | (refine ⟨Or.inr trivial, ?_⟩) | (refine ⟨rfl, ?_⟩) | (refine ⟨?_, ?_⟩))), by (repeat' (first | exact trivial | exact rfl | (refine ⟨Or.inl rfl, ?_⟩) | (refine ⟨Or.inr rfl, ?_⟩) | (refine ⟨Or.inr trivial, ?_⟩) | (refine ⟨rfl, ?_⟩) | (refine ⟨?_, ?_⟩)))⟩; omega)
          | trace_state
      · have hkl : k = es.length := by omega
        subst hkl
        clear g1 g2
        repeat' (first | ((with_reducible refine gA ?_); (first | refine AW_seq ?_ | refine AW_region ?_ | refine AW_condT rfl ?_ | refine AW_condF rfl ?_ | (refine AW_cond rfl (fun hc => ?_) (fun hc => ?_) <;> try (exfalso; simp only [cmpL] at hc; omega)) | refine AW_block ?_ | refine AW_ret ?_ | refine AW_skip ?_ | refine AW_exit ?_)) | ((with_reducible refine gS ?_); refine Es_s (T := Try.tab) rfl rfl rfl rfl ?_) | (((with_reducible refine gS ?_); apply Es_q); rfl; (first | rfl | (refine w_ff ?_; assumption)); (first | refine LStep_call (cr) rfl rfl rfl rfl | refine LStep_call (cp) rfl rfl rfl rfl | refine LStep_call (cq) rfl rfl rfl rfl | refine LStep_eqNilP (T := Try.tab) rfl rfl rfl rfl)) | (((with_reducible refine gS ?_); apply Es_xg); rfl; (first | rfl | (refine w_ff ?_; assumption)); (first | refine LStep_callHN [] [(10, 51), (1010, 5101)] cf rfl rfl trivial rfl trivial rfl rfl | refine LStep_callHN [(1000, 51), (1001, 5101)] [] cw rfl rfl ⟨rfl, rfl, trivial⟩ rfl ⟨trivial, trivial, trivial⟩ rfl rfl); rfl) | (((with_reducible refine gS ?_); apply Es_q); rfl; (first | rfl | (refine w_ff ?_; assumption)); (first | refine LStep_simp (T := Try.tab) rfl rfl | refine LStep_lenM (T := Try.tab) rfl rfl rfl rfl | (refine LStep_pickT rfl rfl ?_ rfl rfl; assumption) | (refine LStep_pickF rfl rfl ?_ rfl rfl; assumption))) | (refine Es_skip rfl ?_ rfl ?_; (first | rfl | (refine w_tf ?_; assumption) | (refine w_ft ?_; assumption))) | (refine Es_split rfl ?_ (fun _ => ?_) (fun _ => ?_); ((fail_if_success (refine und_t ?_; assumption)); (fail_if_success (refine und_f ?_; assumption)); exact trivial)) | (with_reducible refine Es_nil ?_) | (with_reducible refine then_n ?_) | (with_reducible refine then_r ?_) | (with_reducible refine then_e ?_) | ((with_reducible refine block_e ?_ ?_); rfl) | ((with_reducible refine gR ?_); first | refine ret1 rfl ?_ | refine ret2 rfl rfl ?_ | refine ret0 ?_ | refine end1 rfl ?_ | refine end0 ?_))
        all_goals try simp only [cmps] at *
        all_goals try (exfalso; first | omega | contradiction)
        refine AW_forE (S := Nat) (fun j => j ≤ Pq.length) (fun j => [(93, .d (.sc (.int .i64 (j : Nat))))]) (fun _ => []) (fun j => Pq.length - j) 0 (by omega) (by (repeat' (first | exact trivial | exact rfl | (refine ⟨Or.inl rfl, ?_⟩) | (refine ⟨Or.inr rfl, ?_⟩) | (refine ⟨Or.inr trivial, ?_⟩) | (refine ⟨rfl, ?_⟩) | (refine ⟨?_, ?_⟩)))) (by (repeat' (first | exact trivial | exact rfl | (refine ⟨Or.inl rfl, ?_⟩) | (refine ⟨Or.inr rfl, ?_⟩) | (refine ⟨Or.inr trivial, ?_⟩) | (refine ⟨rfl, ?_⟩) | (refine ⟨?_, ?_⟩)))) ?_
        intro j hj
        by_cases hlj : j < Pq.length
        · obtain ⟨p, hp, _⟩ := drop_at hlj
          have hp' : Pq[((j : Nat) : Int).toNat]? = some p := by rw [Int.toNat_natCast]; exact hp
          obtain ⟨p1, p2⟩ := p
          repeat' (first | ((with_reducible refine gA ?_); (first | refine AW_seq ?_ | refine AW_region ?_ | refine AW_regionD Try.mixed ?_ | refine AW_condF rfl ?_ | (refine AW_cond rfl (fun hc => ?_) (fun hc => ?_) <;> try (exfalso; simp only [cmpL] at hc; omega)) | refine AW_block ?_ | refine AW_skip ?_)) | (first | ((with_reducible refine gS ?_); refine Es_s (T := Try.tab) rfl rfl rfl rfl ?_) | ((with_reducible refine gD ?_); refine Ed_s (T := Try.tab) rfl rfl rfl rfl ?_)) | ((first | ((with_reducible refine gS ?_); apply Es_q) | ((with_reducible refine gD ?_); apply Ed_q)); rfl; rfl; refine LStep_neqAgg (T := Try.tab) eqS_mn eqG_mn (by omega) rfl rfl rfl rfl (mn_refl _ _) rfl) | ((first | ((with_reducible refine gS ?_); apply Es_q) | ((with_reducible refine gD ?_); apply Ed_q)); rfl; rfl; (first | (refine LStep_add rfl rfl rfl rfl ?_; (refine IntWalk.i64_in _ ?_; first | omega | (simp only [cmps] at *; omega))) | (refine LStep_indexM (T := Try.tab) (c := ?_) rfl rfl rfl rfl rfl rfl ?_; rotate_left; assumption))) | (with_reducible refine Es_nil ?_) | ((with_reducible refine Ed_nil ?_ ?_); kernel_rfl) | (with_reducible refine then_n ?_) | (with_reducible refine block_n ?_))
          all_goals try simp only [cmps] at *
          all_goals first
            | (exfalso; omega)
            | (exfalso; contradiction)
            | (refine ⟨j + 1, ?_, by omega, by (repeat' (first | exact trivial | exact rfl | (refine ⟨Or.inl rfl, ?_⟩) | (refine ⟨Or.inr rfl, ?_⟩) | (refine ⟨Or.inr trivial, ?_⟩) | (refine ⟨rfl, ?_⟩) | (refine ⟨?_, ?_⟩))), by (repeat' (first | exact trivial | exact rfl | (refine ⟨Or.inl rfl, ?_⟩) | (refine ⟨Or.inr rfl, ?_⟩) | (refine ⟨Or.inr trivial, ?_⟩) | (refine ⟨rfl, ?_⟩) | (refine ⟨?_, ?_⟩))), by (repeat' (first | exact trivial | exact rfl | (refine ⟨Or.inl rfl, ?_⟩) | (refine ⟨Or.inr rfl, ?_⟩) | (refine ⟨Or.inr trivial, ?_⟩) | (refine ⟨rfl, ?_⟩) | (refine ⟨?_, ?_⟩))), by (repeat' (first | exact trivial | exact rfl | (refine ⟨Or.inl rfl, ?_⟩) | (refine ⟨Or.inr rfl, ?_⟩) | (refine ⟨Or.inr trivial, ?_⟩) | (refine ⟨rfl, ?_⟩) | (refine ⟨?_, ?_⟩)))⟩; omega)
            | trace_state
        · have hjl : j = Pq.length := by omega
          subst hjl
          repeat' (first | ((with_reducible refine gA ?_); (first | refine AW_seq ?_ | refine AW_region ?_ | (refine AW_cond rfl (fun hc => ?_) (fun hc => ?_) <;> try (exfalso; simp only [cmpL] at hc; omega)) | refine AW_ret ?_ | refine AW_exit ?_)) | ((with_reducible refine gS ?_); refine Es_s (T := Try.tab) rfl rfl rfl rfl ?_) | (((with_reducible refine gS ?_); apply Es_q); rfl; rfl; refine LStep_call (c0) rfl rfl rfl rfl) | (with_reducible refine Es_nil ?_) | (with_reducible refine then_n ?_) | (with_reducible refine then_e ?_) | ((with_reducible refine block_e ?_ ?_); rfl) | ((with_reducible refine gR ?_); first | refine ret1 rfl ?_ | refine ret2 rfl rfl ?_ | refine ret0 ?_ | refine end1 rfl ?_ | refine end0 ?_))
          all_goals try simp only [cmps] at *
          all_goals first
            | (exfalso; omega)
            | (exfalso; contradiction)
            | rfl
            | trace_state
    · refine AC_enter Try.func9 rfl Try.ntmps9 (rv := [.tmp 8]) rfl rfl (by simp) (fun w X G => ?_)
      repeat' (first | ((with_reducible refine gA ?_); (first | refine AW_seq ?_ | refine AW_region ?_ | refine AW_condT rfl ?_ | (refine AW_cond rfl (fun hc => ?_) (fun hc => ?_) <;> try (exfalso; simp only [cmpL] at hc; omega)) | refine AW_block ?_ | refine AW_ret ?_ | refine AW_skip ?_)) | ((with_reducible refine gS ?_); refine Es_s (T := Try.tab) rfl rfl rfl rfl ?_) | (((with_reducible refine gS ?_); apply Es_q); rfl; (first | rfl | (refine w_ff ?_; assumption)); (first | refine LStep_call (c0) rfl rfl rfl rfl | refine LStep_call (c1) rfl rfl rfl rfl)) | (((with_reducible refine gS ?_); apply Es_q); rfl; (first | rfl | (refine w_ff ?_; assumption)); (first | refine LStep_simp (T := Try.tab) rfl rfl | refine LStep_lenM (T := Try.tab) rfl rfl rfl rfl | refine LStep_wrap (T := Try.tab) rfl rfl | (refine LStep_pickT rfl rfl ?_ rfl rfl; assumption) | (refine LStep_pickF rfl rfl ?_ rfl rfl; assumption))) | (refine Es_skip rfl ?_ rfl ?_; (first | rfl | (refine w_tf ?_; assumption) | (refine w_ft ?_; assumption))) | (refine Es_split rfl ?_ (fun _ => ?_) (fun _ => ?_); ((fail_if_success (refine und_t ?_; assumption)); (fail_if_success (refine und_f ?_; assumption)); exact trivial)) | (with_reducible refine Es_nil ?_) | (with_reducible refine then_n ?_) | (with_reducible refine then_r ?_) | ((with_reducible refine gR ?_); first | refine ret1 rfl ?_ | refine ret2 rfl rfl ?_ | refine ret0 ?_ | refine end1 rfl ?_ | refine end0 ?_))
      all_goals try simp only [cmps] at *
      all_goals first
        | rfl
        | (exfalso; omega)
        | trace_state
end Go.Proofs.Ytnalpielhpmnfaa
