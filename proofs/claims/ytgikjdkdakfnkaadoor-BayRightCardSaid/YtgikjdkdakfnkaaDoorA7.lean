import Derived.Test.YtgikjdkdakfnkaaDoorA6
namespace Go.Proofs.YtgikjdkdakfnkaaDoor
open Go.SL
/-! ### a hold in memory -/
def slV (s : Sl) : Value := .agg [.int .i64 s.b, .int .i64 s.r, .int .i64 s.t].toArray
def loV (x : Load) : AV := .agg x.cs2
theorem slV_keq (a b : Sl) : keq (slV a) (slV b) = decide (b = a) := by
  show (eqb a.b b.b && (eqb a.r b.r && (eqb a.t b.t && true))) = _
  rw [Bool.eq_iff_iff]
  simp only [Bool.and_eq_true, Bool.and_true, eqb_t, decide_eq_true_eq, Sl_eq]
  omega
theorem slV_inj (a b : Sl) (h : slV a = slV b) : a = b := by
  unfold slV at h
  injection h with h
  have h' := congrArg Array.toList h
  simp at h'
  exact Sl_eq.2 h'
theorem sl_rep (s : Sl) : ∀ w X G, Rep w X G (slA s) (slV s) := fun w X G => by
  refine .agg _ _ rfl (fun i c v hc hv => ?_) (fun i v hv => ?_)
  · match i, hc, hv with
    | 0, hc, hv => cases hc; cases hv; exact .d _ _ (.sc _ rfl)
    | 1, hc, hv => cases hc; cases hv; exact .d _ _ (.sc _ rfl)
    | 2, hc, hv => cases hc; cases hv; exact .d _ _ (.sc _ rfl)
  · match i, hv with
    | 0, hv => cases hv; rfl
    | 1, hv => cases hv; rfl
    | 2, hv => cases hv; rfl
theorem keySl : Tryd.tab.keyD 26 = some (.st [.int .i64, .int .i64, .int .i64]) := by kernel_rfl
theorem slV_keyB (k : Sl) : keyB (.st [.int .i64, .int .i64, .int .i64]) (slV k) = true := rfl
theorem sV_keyB (k : ByteArray) : keyB .string (sV k) = true := rfl
theorem sl_keys {α : Type} {cv : α → AV} (l : List (Sl × α)) : ∀ p ∈ emap slV cv l, keyB (.st [.int .i64, .int .i64, .int .i64]) p.1 = true := emap_keys (q := fun v => keyB (.st [.int .i64, .int .i64, .int .i64]) v = true) slV_keyB
theorem s_keys {α : Type} {cv : α → AV} (l : List (ByteArray × α)) : ∀ p ∈ emap sV cv l, keyB .string p.1 = true := emap_keys (q := fun v => keyB .string v = true) sV_keyB
theorem mfind_some {κ α : Type} [DecidableEq κ] {kv : κ → Value} {cv : α → AV} (hq : ∀ a b : κ, keq (kv a) (kv b) = decide (b = a)) {k : κ} {l : List (κ × α)} {a : α} (h : aget k l = some a) : mfind (kv k) (emap kv cv l) = some (cv a) := by rw [mfind_emap hq, h]; rfl
theorem mfind_no {κ α : Type} [DecidableEq κ] {kv : κ → Value} {cv : α → AV} (hq : ∀ a b : κ, keq (kv a) (kv b) = decide (b = a)) {k : κ} {l : List (κ × α)} (h : aget k l = none) : mfind (kv k) (emap kv cv l) = none := by rw [mfind_emap hq, h]; rfl
def slots (L : List Load) : Nat × Option AObj := (1001, some (.map 26 38 (emap slV loV (slM L)) none))
def names (L : List Load) : Nat × Option AObj := (1002, some (.map 9 38 (emap sV loV (nmM L)) none))
def hB (S : Ship) (L : List Load) : Hp := [(1000, some (.cells [.d (.sc (.string S.nm)), .d (.sc (.int .i64 S.bays)), .d (.sc (.int .i64 S.rows)), .d (.sc (.int .i64 S.tiers)), .d (.sc (.int .i64 S.stack)), .d (.sc (.int .i64 S.trim)), .d (.sc (.int .i64 S.list)), .d (.sc (.int .i64 S.up)), .d (.sc (.int .i64 S.most)), .mp 1001, .mp 1002, .d (.sc (.int .i64 (wsum L)))])), (1001, some (.map 26 38 (emap slV loV (slM L)) none)), (1002, some (.map 9 38 (emap sV loV (nmM L)) none))]
def hB' (i0 i1 i2 : Nat) (S : Ship) (L : List Load) : Hp := [(i0, some (.cells [.d (.sc (.string S.nm)), .d (.sc (.int .i64 S.bays)), .d (.sc (.int .i64 S.rows)), .d (.sc (.int .i64 S.tiers)), .d (.sc (.int .i64 S.stack)), .d (.sc (.int .i64 S.trim)), .d (.sc (.int .i64 S.list)), .d (.sc (.int .i64 S.up)), .d (.sc (.int .i64 S.most)), .mp i1, .mp i2, .d (.sc (.int .i64 (wsum L)))])), (i1, some (.map 26 38 (emap slV loV (slM L)) none)), (i2, some (.map 9 38 (emap sV loV (nmM L)) none))]
theorem lstep_makeMapT {P : Program} {O : Org} {T : Tab P} {o : Oper} {env : Env} {h : Hp} {t kt et id : Nat} (ho : o.op = .makeMap t none) (_hT : T.desc t = some (.map kt et)) (hd : o.dst = some id) (hn : dstOk (some id) O.nt = true) (hi : O.ids.contains id = false) :
    LStep P O o env h [] [id] (.mp id) [(id, some (.map kt et [] none))] := LStep_makeMap ho hd hn hi
def zL : Load := ⟨⟨0, 0, 0⟩, ByteArray.empty, 0, 0, 0⟩
set_option maxRecDepth 10000 in
set_option maxHeartbeats 2000000 in
theorem newNo_ac (S : Ship) (hS : shipOk S = false) : AC Tryd.prog 11 [.agg S.cs] [] [] (fun r _ => r = .tup [.d (.sc (.pointer none)), .d (.sc (.int .i64 1))]) := by
  have cm := may_ac S
  rw [hS] at cm
  refine AC_enter Tryd.func11 rfl Tryd.ntmps11 (rv := [.tmp 2, .tmp 3]) rfl rfl (by simp) (fun w X G => ?_)
  repeat' (first | ((with_reducible refine gA ?_); (first | refine AW_seq ?_ | refine AW_region ?_ | refine AW_condT rfl ?_ | refine AW_ret ?_)) | ((with_reducible refine gS ?_); refine Es_s (T := Tryd.tab) rfl rfl rfl rfl ?_) | (((with_reducible refine gS ?_); apply Es_q); rfl; rfl; refine LStep_call (cm) rfl rfl rfl rfl) | (refine Es_skip rfl ?_ rfl ?_; (first | rfl | (refine w_tf ?_; assumption) | (refine w_ft ?_; assumption))) | (((with_reducible refine gS ?_); apply Es_xs); rfl; rfl; refine LStep_boxN rfl rfl rfl rfl rfl rfl; rfl) | (with_reducible refine Es_nil ?_) | (with_reducible refine then_n ?_) | (with_reducible refine then_r ?_) | ((with_reducible refine gR ?_); first | refine ret1 rfl ?_ | refine ret2 rfl rfl ?_ | refine ret0 ?_ | refine end1 rfl ?_ | refine end0 ?_))
  all_goals first
    | rfl
    | trace_state
set_option maxRecDepth 10000 in
set_option maxHeartbeats 2000000 in
theorem newOk_ac (S : Ship) (hS : shipOk S = true) : AC Tryd.prog 11 [.agg S.cs] [] [] (fun r h' => r = .tup [.ptr 11 0, .d (.sc (.int .i64 0))] ∧ SubH (hB' 11 8 9 S []) h') := by
  have cm := may_ac S
  rw [hS] at cm
  refine AC_enter Tryd.func11 rfl Tryd.ntmps11 (rv := [.tmp 2, .tmp 3]) rfl rfl (by simp) (fun w X G => ?_)
  repeat' (first | ((with_reducible refine gA ?_); (first | refine AW_seq ?_ | refine AW_region ?_ | refine AW_condF rfl ?_ | refine AW_ret ?_ | refine AW_skip ?_)) | ((with_reducible refine gS ?_); refine Es_s (T := Tryd.tab) rfl rfl rfl rfl ?_) | (((with_reducible refine gS ?_); apply Es_q); rfl; rfl; refine LStep_call (cm) rfl rfl rfl rfl) | (((with_reducible refine gS ?_); apply Es_xs); rfl; rfl; refine lstep_makeMapT (T := Tryd.tab) rfl rfl rfl rfl rfl; rfl) | (((with_reducible refine gS ?_); apply Es_q); rfl; rfl; refine LStep_buildN (T := Tryd.tab) rfl rfl rfl rfl rfl rfl rfl) | (refine Es_skip rfl ?_ rfl ?_; (first | rfl | (refine w_tf ?_; assumption) | (refine w_ft ?_; assumption))) | (((with_reducible refine gS ?_); apply Es_xs); rfl; rfl; refine LStep_boxN rfl rfl rfl rfl rfl rfl; rfl) | (with_reducible refine Es_nil ?_) | (with_reducible refine then_n ?_) | ((with_reducible refine gR ?_); first | refine ret1 rfl ?_ | refine ret2 rfl rfl ?_ | refine ret0 ?_ | refine end1 rfl ?_ | refine end0 ?_))
  all_goals first
    | exact ⟨rfl, by unfold hB'; (repeat' (first | exact trivial | exact rfl | (refine ⟨Or.inl rfl, ?_⟩) | (refine ⟨Or.inr rfl, ?_⟩) | (refine ⟨Or.inr trivial, ?_⟩) | (refine ⟨rfl, ?_⟩) | (refine ⟨?_, ?_⟩)))⟩
    | trace_state
set_option maxRecDepth 10000 in
set_option maxHeartbeats 2000000 in
theorem has_ac (S : Ship) (L : List Load) (s : Sl) (hS : (0 ≤ S.bays ∧ S.bays ≤ 1048576) ∧ (0 ≤ S.rows ∧ S.rows ≤ 1048576) ∧ (0 ≤ S.tiers ∧ S.tiers ≤ 1048576)) : AC Tryd.prog 51 [.ptr 1000 0, slA s] (hB S L) [1000, 1001, 1002] (fun r h' => r = .d (.sc (.bool (onB S s))) ∧ SubH (hB S L) h') := by
  have c1 := isFrom_ac s.b 0 (S.bays - 1)
  have c2 := isFrom_ac s.r 0 (S.rows - 1)
  have c3 := isFrom_ac s.t 0 (S.tiers - 1)
  refine AC_enter Tryd.func51 rfl Tryd.ntmps51 (rv := [.tmp 4]) rfl rfl (by simp) (fun w X G => ?_)
  repeat' (first | ((with_reducible refine gA ?_); (first | refine AW_seq ?_ | refine AW_region ?_ | refine AW_regionD Tryd.mixed ?_ | refine AW_ret ?_)) | (first | ((with_reducible refine gS ?_); refine Es_s (T := Tryd.tab) rfl rfl rfl rfl ?_) | ((with_reducible refine gD ?_); refine Ed_s (T := Tryd.tab) rfl rfl rfl rfl ?_)) | ((first | ((with_reducible refine gS ?_); apply Es_q) | ((with_reducible refine gD ?_); apply Ed_q)); rfl; (first | rfl | (refine w_tt ?_; assumption)); (first | refine LStep_call (c1) rfl rfl rfl rfl | refine LStep_call (c2) rfl rfl rfl rfl | refine LStep_call (c3) rfl rfl rfl rfl)) | ((first | ((with_reducible refine gS ?_); apply Es_q) | ((with_reducible refine gD ?_); apply Ed_q)); rfl; (first | rfl | (refine w_tt ?_; assumption)); (first | refine LStep_simp (T := Tryd.tab) rfl rfl | (refine LStep_sub rfl rfl rfl rfl ?_; (refine IntWalk.i64_in _ ?_; first | omega | (simp only [cmps] at *; omega))) | (refine LStep_pickT rfl rfl ?_ rfl rfl; assumption) | (refine LStep_pickF rfl rfl ?_ rfl rfl; assumption))) | ((first | refine Es_skip rfl ?_ rfl ?_ | refine Ed_skip rfl ?_ rfl ?_); (first | rfl | (refine w_tf ?_; assumption) | (refine w_ft ?_; assumption))) | ((first | ((with_reducible refine gS ?_); apply Es_xs) | ((with_reducible refine gD ?_); apply Ed_xs)); rfl; rfl; refine LStep_boxN rfl rfl rfl rfl rfl rfl; rfl) | (refine Ed_split rfl ?_ (fun _ => ?_) (fun _ => ?_); ((fail_if_success (refine und_t ?_; assumption)); (fail_if_success (refine und_f ?_; assumption)); exact trivial)) | (with_reducible refine Es_nil ?_) | ((with_reducible refine Ed_nil ?_ ?_); kernel_rfl) | (with_reducible refine then_n ?_) | ((with_reducible refine gR ?_); first | refine ret1 rfl ?_ | refine ret2 rfl rfl ?_ | refine ret0 ?_ | refine end1 rfl ?_ | refine end0 ?_))
  all_goals first
    | (refine ⟨?_, by (repeat' (first | exact trivial | exact rfl | (refine ⟨Or.inl rfl, ?_⟩) | (refine ⟨Or.inr rfl, ?_⟩) | (refine ⟨Or.inr trivial, ?_⟩) | (refine ⟨rfl, ?_⟩) | (refine ⟨?_, ?_⟩)))⟩; refine congrArg (fun b => AV.d (D.sc (Value.bool b))) ?_; unfold onB; simp [*]; done)
    | trace_state
set_option maxRecDepth 10000 in
set_option maxHeartbeats 2000000 in
theorem at_ac (S : Ship) (L : List Load) (s : Sl) : AC Tryd.prog 15 [.ptr 1000 0, slA s] (hB S L) [1000, 1001, 1002] (fun r h' => r = .tup [.agg ((atS L s).getD zL).cs2, .d (.sc (.bool (atS L s).isSome))] ∧ SubH (hB S L) h') := by
  cases hf : atS L s with
  | some a =>
    have hm := mfind_some (cv := loV) slV_keq hf
    refine AC_enterG Tryd.tab Tryd.func15 rfl Tryd.ntmps15 (rv := [.cell 4 38, .tmp 5]) rfl rfl (by simp) (fun w X G => ?_)
    repeat' (first | ((with_reducible refine gA ?_); (first | refine AW_seq ?_ | refine AW_region ?_ | refine AW_regionD Tryd.mixed ?_ | refine AW_ret ?_)) | (first | ((with_reducible refine gS ?_); refine Es_s (T := Tryd.tab) rfl rfl rfl rfl ?_) | ((with_reducible refine gD ?_); refine Ed_s (T := Tryd.tab) rfl rfl rfl rfl ?_)) | ((first | ((with_reducible refine gS ?_); apply Es_q) | ((with_reducible refine gD ?_); apply Ed_q)); rfl; rfl; refine LStep_lookupOk (T := Tryd.tab) rfl rfl rfl keySl rfl rfl rfl rfl (sl_keys _) hm) | ((first | refine Es_skip rfl ?_ rfl ?_ | refine Ed_skip rfl ?_ rfl ?_); (first | rfl | (refine w_tf ?_; assumption) | (refine w_ft ?_; assumption))) | ((first | ((with_reducible refine gS ?_); apply Es_xs) | ((with_reducible refine gD ?_); apply Ed_xs)); rfl; rfl; (first | refine LStep_boxN rfl rfl rfl rfl rfl rfl | refine LStep_allocN (T := Tryd.tab) rfl rfl rfl rfl rfl rfl); rfl) | ((first | ((with_reducible refine gS ?_); apply Es_xn) | ((with_reducible refine gD ?_); apply Ed_xn)); rfl; rfl; (refine LStep_storeN (T := Tryd.tab) rfl rfl rfl rfl rfl rfl rfl ?_ rfl; (refine Nat.le_of_ble_eq_true ?_; rfl)); rfl) | (with_reducible refine Es_nil ?_) | ((with_reducible refine Ed_nil ?_ ?_); kernel_rfl) | (with_reducible refine then_n ?_) | ((with_reducible refine gRG ?_); first | refine retGa rfl ?_ | refine retGb rfl ?_ | refine retGc rfl ?_ | refine retG1 rfl rfl ?_ | refine endG1 rfl rfl ?_))
    all_goals first
      | exact ⟨rfl, by (repeat' (first | exact trivial | exact rfl | (refine ⟨Or.inl rfl, ?_⟩) | (refine ⟨Or.inr rfl, ?_⟩) | (refine ⟨Or.inr trivial, ?_⟩) | (refine ⟨rfl, ?_⟩) | (refine ⟨?_, ?_⟩)))⟩
      | trace_state
  | none =>
    have hm := mfind_no (cv := loV) slV_keq hf
    refine AC_enterG Tryd.tab Tryd.func15 rfl Tryd.ntmps15 (rv := [.cell 4 38, .tmp 5]) rfl rfl (by simp) (fun w X G => ?_)
    repeat' (first | ((with_reducible refine gA ?_); (first | refine AW_seq ?_ | refine AW_region ?_ | refine AW_regionD Tryd.mixed ?_ | refine AW_ret ?_)) | (first | ((with_reducible refine gS ?_); refine Es_s (T := Tryd.tab) rfl rfl rfl rfl ?_) | ((with_reducible refine gD ?_); refine Ed_s (T := Tryd.tab) rfl rfl rfl rfl ?_)) | ((first | ((with_reducible refine gS ?_); apply Es_q) | ((with_reducible refine gD ?_); apply Ed_q)); rfl; rfl; refine LStep_lookupNoZ (T := Tryd.tab) rfl rfl rfl keySl rfl rfl rfl rfl rfl rfl (sl_keys _) hm) | ((first | refine Es_skip rfl ?_ rfl ?_ | refine Ed_skip rfl ?_ rfl ?_); (first | rfl | (refine w_tf ?_; assumption) | (refine w_ft ?_; assumption))) | ((first | ((with_reducible refine gS ?_); apply Es_xs) | ((with_reducible refine gD ?_); apply Ed_xs)); rfl; rfl; (first | refine LStep_boxN rfl rfl rfl rfl rfl rfl | refine LStep_allocN (T := Tryd.tab) rfl rfl rfl rfl rfl rfl); rfl) | ((first | ((with_reducible refine gS ?_); apply Es_xn) | ((with_reducible refine gD ?_); apply Ed_xn)); rfl; rfl; (refine LStep_storeN (T := Tryd.tab) rfl rfl rfl rfl rfl rfl rfl ?_ rfl; (refine Nat.le_of_ble_eq_true ?_; rfl)); rfl) | (with_reducible refine Es_nil ?_) | ((with_reducible refine Ed_nil ?_ ?_); kernel_rfl) | (with_reducible refine then_n ?_) | ((with_reducible refine gRG ?_); first | refine retGa rfl ?_ | refine retGb rfl ?_ | refine retGc rfl ?_ | refine retG1 rfl rfl ?_ | refine endG1 rfl rfl ?_))
    all_goals first
      | exact ⟨rfl, by (repeat' (first | exact trivial | exact rfl | (refine ⟨Or.inl rfl, ?_⟩) | (refine ⟨Or.inr rfl, ?_⟩) | (refine ⟨Or.inr trivial, ?_⟩) | (refine ⟨rfl, ?_⟩) | (refine ⟨?_, ?_⟩)))⟩
      | trace_state
set_option maxRecDepth 10000 in
set_option maxHeartbeats 2000000 in
theorem find_ac (S : Ship) (L : List Load) (n : ByteArray) : AC Tryd.prog 17 [.ptr 1000 0, .d (.sc (.string n))] (hB S L) [1000, 1001, 1002] (fun r h' => r = .tup [.agg ((byB L n).getD zL).cs2, .d (.sc (.bool (byB L n).isSome))] ∧ SubH (hB S L) h') := by
  cases hf : byB L n with
  | some a =>
    have hm := mfind_some (cv := loV) sV_keq hf
    refine AC_enterG Tryd.tab Tryd.func17 rfl Tryd.ntmps17 (rv := [.cell 4 38, .tmp 5]) rfl rfl (by simp) (fun w X G => ?_)
    repeat' (first | ((with_reducible refine gA ?_); (first | refine AW_seq ?_ | refine AW_region ?_ | refine AW_ret ?_)) | ((with_reducible refine gS ?_); refine Es_s (T := Tryd.tab) rfl rfl rfl rfl ?_) | (((with_reducible refine gS ?_); apply Es_q); rfl; rfl; refine LStep_lookupOk (T := Tryd.tab) rfl rfl rfl rfl rfl rfl rfl rfl (s_keys _) hm) | (refine Es_skip rfl ?_ rfl ?_; (first | rfl | (refine w_tf ?_; assumption) | (refine w_ft ?_; assumption))) | (((with_reducible refine gS ?_); apply Es_xs); rfl; rfl; refine LStep_allocN (T := Tryd.tab) rfl rfl rfl rfl rfl rfl; rfl) | (((with_reducible refine gS ?_); apply Es_xn); rfl; rfl; (refine LStep_storeN (T := Tryd.tab) rfl rfl rfl rfl rfl rfl rfl ?_ rfl; (refine Nat.le_of_ble_eq_true ?_; rfl)); rfl) | (with_reducible refine Es_nil ?_) | (with_reducible refine then_n ?_) | ((with_reducible refine gRG ?_); first | refine retGa rfl ?_ | refine retGb rfl ?_ | refine retGc rfl ?_ | refine retG1 rfl rfl ?_ | refine endG1 rfl rfl ?_))
    all_goals first
      | exact ⟨rfl, by (repeat' (first | exact trivial | exact rfl | (refine ⟨Or.inl rfl, ?_⟩) | (refine ⟨Or.inr rfl, ?_⟩) | (refine ⟨Or.inr trivial, ?_⟩) | (refine ⟨rfl, ?_⟩) | (refine ⟨?_, ?_⟩)))⟩
      | trace_state
  | none =>
    have hm := mfind_no (cv := loV) sV_keq hf
    refine AC_enterG Tryd.tab Tryd.func17 rfl Tryd.ntmps17 (rv := [.cell 4 38, .tmp 5]) rfl rfl (by simp) (fun w X G => ?_)
    repeat' (first | ((with_reducible refine gA ?_); (first | refine AW_seq ?_ | refine AW_region ?_ | refine AW_ret ?_)) | ((with_reducible refine gS ?_); refine Es_s (T := Tryd.tab) rfl rfl rfl rfl ?_) | (((with_reducible refine gS ?_); apply Es_q); rfl; rfl; refine LStep_lookupNoZ (T := Tryd.tab) rfl rfl rfl rfl rfl rfl rfl rfl rfl rfl (s_keys _) hm) | (refine Es_skip rfl ?_ rfl ?_; (first | rfl | (refine w_tf ?_; assumption) | (refine w_ft ?_; assumption))) | (((with_reducible refine gS ?_); apply Es_xs); rfl; rfl; refine LStep_allocN (T := Tryd.tab) rfl rfl rfl rfl rfl rfl; rfl) | (((with_reducible refine gS ?_); apply Es_xn); rfl; rfl; (refine LStep_storeN (T := Tryd.tab) rfl rfl rfl rfl rfl rfl rfl ?_ rfl; (refine Nat.le_of_ble_eq_true ?_; rfl)); rfl) | (with_reducible refine Es_nil ?_) | (with_reducible refine then_n ?_) | ((with_reducible refine gRG ?_); first | refine retGa rfl ?_ | refine retGb rfl ?_ | refine retGc rfl ?_ | refine retG1 rfl rfl ?_ | refine endG1 rfl rfl ?_))
    all_goals first
      | exact ⟨rfl, by (repeat' (first | exact trivial | exact rfl | (refine ⟨Or.inl rfl, ?_⟩) | (refine ⟨Or.inr rfl, ?_⟩) | (refine ⟨Or.inr trivial, ?_⟩) | (refine ⟨rfl, ?_⟩) | (refine ⟨?_, ?_⟩)))⟩
      | trace_state
end Go.Proofs.YtgikjdkdakfnkaaDoor
