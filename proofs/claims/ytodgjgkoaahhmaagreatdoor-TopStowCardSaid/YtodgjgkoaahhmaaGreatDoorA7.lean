import Derived.Test.YtodgjgkoaahhmaaGreatDoorA6
namespace Go.Proofs.YtodgjgkoaahhmaaGreatDoor
open Go.SL
/-! ### a hold in memory -/
def slV (s : Sl) : Value := .agg [.int .i64 s.b, .int .i64 s.r, .int .i64 s.t].toArray
def loV (x : Load) : AV := .agg x.cs2
theorem slV_keq (a b : Sl) : keq (slV a) (slV b) = decide (b = a) := by
  show (eqb a.b b.b && (eqb a.r b.r && (eqb a.t b.t && true))) = _
  rw [Bool.eq_iff_iff]
  simp only [Bool.and_eq_true, Bool.and_true, eqb_t, decide_eq_true_eq, Sl_eq]
  omega
theorem slV_inj (a b : Sl) (h : slV a = slV b) : a = b := by
  unfold slV at h
  injection h with h
  have h' := congrArg Array.toList h
  simp at h'
  exact Sl_eq.2 h'
theorem sl_rep (s : Sl) : ∀ w X G, Rep w X G (slA s) (slV s) := fun w X G => by
  refine .agg _ _ rfl (fun i c v hc hv => ?_) (fun i v hv => ?_)
  · match i, hc, hv with
    | 0, hc, hv => cases hc; cases hv; exact .d _ _ (.sc _ rfl)
    | 1, hc, hv => cases hc; cases hv; exact .d _ _ (.sc _ rfl)
    | 2, hc, hv => cases hc; cases hv; exact .d _ _ (.sc _ rfl)
  · match i, hv with
    | 0, hv => cases hv; rfl
    | 1, hv => cases hv; rfl
    | 2, hv => cases hv; rfl
theorem keySl : Tryz.tab.keyD 38 = some (.st [.int .i64, .int .i64, .int .i64]) := by kernel_rfl
theorem slV_keyB (k : Sl) : keyB (.st [.int .i64, .int .i64, .int .i64]) (slV k) = true := rfl
theorem sV_keyB (k : ByteArray) : keyB .string (sV k) = true := rfl
theorem sl_keys {α : Type} {cv : α → AV} (l : List (Sl × α)) : ∀ p ∈ emap slV cv l, keyB (.st [.int .i64, .int .i64, .int .i64]) p.1 = true := emap_keys (q := fun v => keyB (.st [.int .i64, .int .i64, .int .i64]) v = true) slV_keyB
theorem s_keys {α : Type} {cv : α → AV} (l : List (ByteArray × α)) : ∀ p ∈ emap sV cv l, keyB .string p.1 = true := emap_keys (q := fun v => keyB .string v = true) sV_keyB
theorem mfind_some {κ α : Type} [DecidableEq κ] {kv : κ → Value} {cv : α → AV} (hq : ∀ a b : κ, keq (kv a) (kv b) = decide (b = a)) {k : κ} {l : List (κ × α)} {a : α} (h : aget k l = some a) : mfind (kv k) (emap kv cv l) = some (cv a) := by rw [mfind_emap hq, h]; rfl
theorem mfind_no {κ α : Type} [DecidableEq κ] {kv : κ → Value} {cv : α → AV} (hq : ∀ a b : κ, keq (kv a) (kv b) = decide (b = a)) {k : κ} {l : List (κ × α)} (h : aget k l = none) : mfind (kv k) (emap kv cv l) = none := by rw [mfind_emap hq, h]; rfl
def slots (L : List Load) : Nat × Option AObj := (1001, some (.map 38 40 (emap slV loV (slM L)) none))
def names (L : List Load) : Nat × Option AObj := (1002, some (.map 9 40 (emap sV loV (nmM L)) none))
def hB (S : Ship) (L : List Load) : Hp := [(1000, some (.cells [.d (.sc (.string S.nm)), .d (.sc (.int .i64 S.bays)), .d (.sc (.int .i64 S.rows)), .d (.sc (.int .i64 S.tiers)), .d (.sc (.int .i64 S.stack)), .d (.sc (.int .i64 S.trim)), .d (.sc (.int .i64 S.list)), .d (.sc (.int .i64 S.up)), .d (.sc (.int .i64 S.most)), .mp 1001, .mp 1002, .d (.sc (.int .i64 (wsum L)))])), (1001, some (.map 38 40 (emap slV loV (slM L)) none)), (1002, some (.map 9 40 (emap sV loV (nmM L)) none))]
def hB' (i0 i1 i2 : Nat) (S : Ship) (L : List Load) : Hp := [(i0, some (.cells [.d (.sc (.string S.nm)), .d (.sc (.int .i64 S.bays)), .d (.sc (.int .i64 S.rows)), .d (.sc (.int .i64 S.tiers)), .d (.sc (.int .i64 S.stack)), .d (.sc (.int .i64 S.trim)), .d (.sc (.int .i64 S.list)), .d (.sc (.int .i64 S.up)), .d (.sc (.int .i64 S.most)), .mp i1, .mp i2, .d (.sc (.int .i64 (wsum L)))])), (i1, some (.map 38 40 (emap slV loV (slM L)) none)), (i2, some (.map 9 40 (emap sV loV (nmM L)) none))]
theorem lstep_makeMapT {P : Program} {O : Org} {T : Tab P} {o : Oper} {env : Env} {h : Hp} {t kt et id : Nat} (ho : o.op = .makeMap t none) (_hT : T.desc t = some (.map kt et)) (hd : o.dst = some id) (hn : dstOk (some id) O.nt = true) (hi : O.ids.contains id = false) :
    LStep P O o env h [] [id] (.mp id) [(id, some (.map kt et [] none))] := LStep_makeMap ho hd hn hi
def zL : Load := ⟨⟨0, 0, 0⟩, ByteArray.empty, 0, 0, 0⟩
set_option maxRecDepth 10000 in
set_option maxHeartbeats 2000000 in
theorem newNo_ac (S : Ship) (hS : shipOk S = false) : AC Tryz.prog 31 [.agg S.cs] [] [] (fun r _ => r = .tup [.d (.sc (.pointer none)), .d (.sc (.int .i64 1))]) := by
  have cm := may_ac S
  rw [hS] at cm
  refine AC_enter Tryz.func31 rfl Tryz.ntmps31 (rv := [.tmp 2, .tmp 3]) rfl rfl (by simp) (fun w X G => ?_)
  repeat' (first | ((with_reducible refine gA ?_); (first | refine AW_seq ?_ | refine AW_region ?_ | refine AW_condT rfl ?_ | refine AW_ret ?_)) | ((with_reducible refine gS ?_); refine Es_s (T := Tryz.tab) rfl rfl rfl rfl ?_) | (((with_reducible refine gS ?_); apply Es_q); rfl; rfl; refine LStep_call (cm) rfl rfl rfl rfl) | (refine Es_skip rfl ?_ rfl ?_; (first | rfl | (refine w_tf ?_; assumption) | (refine w_ft ?_; assumption))) | (((with_reducible refine gS ?_); apply Es_xs); rfl; rfl; refine LStep_boxN rfl rfl rfl rfl rfl rfl; rfl) | (with_reducible refine Es_nil ?_) | (with_reducible refine then_n ?_) | (with_reducible refine then_r ?_) | ((with_reducible refine gR ?_); first | refine ret1 rfl ?_ | refine ret2 rfl rfl ?_ | refine ret0 ?_ | refine end1 rfl ?_ | refine end0 ?_))
  all_goals first
    | rfl
    | trace_state
set_option maxRecDepth 10000 in
set_option maxHeartbeats 2000000 in
theorem newOk_ac (S : Ship) (hS : shipOk S = true) : AC Tryz.prog 31 [.agg S.cs] [] [] (fun r h' => r = .tup [.ptr 11 0, .d (.sc (.int .i64 0))] ∧ SubH (hB' 11 8 9 S []) h') := by
  have cm := may_ac S
  rw [hS] at cm
  refine AC_enter Tryz.func31 rfl Tryz.ntmps31 (rv := [.tmp 2, .tmp 3]) rfl rfl (by simp) (fun w X G => ?_)
  repeat' (first | ((with_reducible refine gA ?_); (first | refine AW_seq ?_ | refine AW_region ?_ | refine AW_condF rfl ?_ | refine AW_ret ?_ | refine AW_skip ?_)) | ((with_reducible refine gS ?_); refine Es_s (T := Tryz.tab) rfl rfl rfl rfl ?_) | (((with_reducible refine gS ?_); apply Es_q); rfl; rfl; refine LStep_call (cm) rfl rfl rfl rfl) | (((with_reducible refine gS ?_); apply Es_xs); rfl; rfl; refine lstep_makeMapT (T := Tryz.tab) rfl rfl rfl rfl rfl; rfl) | (((with_reducible refine gS ?_); apply Es_q); rfl; rfl; refine LStep_buildN (T := Tryz.tab) rfl rfl rfl rfl rfl rfl rfl) | (refine Es_skip rfl ?_ rfl ?_; (first | rfl | (refine w_tf ?_; assumption) | (refine w_ft ?_; assumption))) | (((with_reducible refine gS ?_); apply Es_xs); rfl; rfl; refine LStep_boxN rfl rfl rfl rfl rfl rfl; rfl) | (with_reducible refine Es_nil ?_) | (with_reducible refine then_n ?_) | ((with_reducible refine gR ?_); first | refine ret1 rfl ?_ | refine ret2 rfl rfl ?_ | refine ret0 ?_ | refine end1 rfl ?_ | refine end0 ?_))
  all_goals first
    | exact ⟨rfl, by unfold hB'; (repeat' (first | exact trivial | exact rfl | (refine ⟨Or.inl rfl, ?_⟩) | (refine ⟨Or.inr rfl, ?_⟩) | (refine ⟨Or.inr trivial, ?_⟩) | (refine ⟨rfl, ?_⟩) | (refine ⟨?_, ?_⟩)))⟩
    | trace_state
set_option maxRecDepth 10000 in
set_option maxHeartbeats 2000000 in
theorem has_ac (S : Ship) (L : List Load) (s : Sl) (hS : (0 ≤ S.bays ∧ S.bays ≤ 1048576) ∧ (0 ≤ S.rows ∧ S.rows ≤ 1048576) ∧ (0 ≤ S.tiers ∧ S.tiers ≤ 1048576)) : AC Tryz.prog 64 [.ptr 1000 0, slA s] (hB S L) [1000, 1001, 1002] (fun r h' => r = .d (.sc (.bool (onB S s))) ∧ SubH (hB S L) h') := by
  have c1 := isFrom_ac s.b 0 (S.bays - 1)
  have c2 := isFrom_ac s.r 0 (S.rows - 1)
  have c3 := isFrom_ac s.t 0 (S.tiers - 1)
  refine AC_enter Tryz.func64 rfl Tryz.ntmps64 (rv := [.tmp 4]) rfl rfl (by simp) (fun w X G => ?_)
  repeat' (first | ((with_reducible refine gA ?_); (first | refine AW_seq ?_ | refine AW_region ?_ | refine AW_regionD Tryz.mixed ?_ | refine AW_ret ?_)) | (first | ((with_reducible refine gS ?_); refine Es_s (T := Tryz.tab) rfl rfl rfl rfl ?_) | ((with_reducible refine gD ?_); refine Ed_s (T := Tryz.tab) rfl rfl rfl rfl ?_)) | ((first | ((with_reducible refine gS ?_); apply Es_q) | ((with_reducible refine gD ?_); apply Ed_q)); rfl; (first | rfl | (refine w_tt ?_; assumption)); (first | refine LStep_call (c1) rfl rfl rfl rfl | refine LStep_call (c2) rfl rfl rfl rfl | refine LStep_call (c3) rfl rfl rfl rfl)) | ((first | ((with_reducible refine gS ?_); apply Es_q) | ((with_reducible refine gD ?_); apply Ed_q)); rfl; (first | rfl | (refine w_tt ?_; assumption)); (first | refine LStep_simp (T := Tryz.tab) rfl rfl | (refine LStep_sub rfl rfl rfl rfl ?_; (refine IntWalk.i64_in _ ?_; first | omega | (simp only [cmps] at *; omega))) | (refine LStep_pickT rfl rfl ?_ rfl rfl; assumption) | (refine LStep_pickF rfl rfl ?_ rfl rfl; assumption))) | ((first | refine Es_skip rfl ?_ rfl ?_ | refine Ed_skip rfl ?_ rfl ?_); (first | rfl | (refine w_tf ?_; assumption) | (refine w_ft ?_; assumption))) | ((first | ((with_reducible refine gS ?_); apply Es_xs) | ((with_reducible refine gD ?_); apply Ed_xs)); rfl; rfl; refine LStep_boxN rfl rfl rfl rfl rfl rfl; rfl) | (refine Ed_split rfl ?_ (fun _ => ?_) (fun _ => ?_); ((fail_if_success (refine und_t ?_; assumption)); (fail_if_success (refine und_f ?_; assumption)); exact trivial)) | (with_reducible refine Es_nil ?_) | ((with_reducible refine Ed_nil ?_ ?_); kernel_rfl) | (with_reducible refine then_n ?_) | ((with_reducible refine gR ?_); first | refine ret1 rfl ?_ | refine ret2 rfl rfl ?_ | refine ret0 ?_ | refine end1 rfl ?_ | refine end0 ?_))
  all_goals first
    | (refine ⟨?_, by (repeat' (first | exact trivial | exact rfl | (refine ⟨Or.inl rfl, ?_⟩) | (refine ⟨Or.inr rfl, ?_⟩) | (refine ⟨Or.inr trivial, ?_⟩) | (refine ⟨rfl, ?_⟩) | (refine ⟨?_, ?_⟩)))⟩; refine congrArg (fun b => AV.d (D.sc (Value.bool b))) ?_; unfold onB; simp [*]; done)
    | trace_state




end Go.Proofs.YtodgjgkoaahhmaaGreatDoor
namespace Go.Proofs.YtodgjgkoaahhmaaGreatDoor
open Go.SL
/-! ### stacks -/
set_option maxRecDepth 10000 in
set_option maxHeartbeats 4000000 in
theorem stack_ac (S : Ship) (L : List Load) (b r : Int) : AC Tryz.prog 52 [.ptr 1000 0, .d (.sc (.int .i64 b)), .d (.sc (.int .i64 r))] (hB S L) [1000, 1001, 1002] (fun v h' => v = .d (.sl 7 ((stackL L b r).map Load.enc)) ∧ SubH (hB S L) h') := by
  refine AC_enter Tryz.func52 rfl Tryz.ntmps52 (rv := [.tmp 6]) rfl rfl (by simp) (fun w X G => ?_)
  repeat' (first | ((with_reducible refine gA ?_); (first | refine AW_seq ?_ | refine AW_region ?_ | refine AW_block ?_)) | ((with_reducible refine gS ?_); refine Es_s (T := Tryz.tab) rfl rfl rfl rfl ?_) | (with_reducible refine Es_nil ?_) | (with_reducible refine then_n ?_))
  refine AW_openNil (t := 7) (id := 2000) (e := 40) (sz := 7) rfl rfl rfl rfl ?_
  refine AW_forE (S := List Load) (fun a => a.length ≤ 32 ∧ stackL L b r = a ++ stkF L b r (32 - a.length) (a.length : Nat)) (fun a => [(11, .d (.sc (.int .i64 (a.length : Nat)))), (7, .own 2000 (a.map Load.enc).length)]) (fun a => [(2000, some (.arr 40 7 (a.map Load.enc)))]) (fun a => 32 - a.length) [] ⟨by simp, rfl⟩ (by (repeat' (first | exact trivial | exact rfl | (refine ⟨Or.inl rfl, ?_⟩) | (refine ⟨Or.inr rfl, ?_⟩) | (refine ⟨Or.inr trivial, ?_⟩) | (refine ⟨rfl, ?_⟩) | (refine ⟨?_, ?_⟩)))) (by (repeat' (first | exact trivial | exact rfl | (refine ⟨Or.inl rfl, ?_⟩) | (refine ⟨Or.inr rfl, ?_⟩) | (refine ⟨Or.inr trivial, ?_⟩) | (refine ⟨rfl, ?_⟩) | (refine ⟨?_, ?_⟩)))) ?_
  intro a ⟨ha, he⟩
  by_cases hlt : a.length < 32
  · have h1 : 32 - a.length = (32 - (a.length + 1)) + 1 := by omega
    rw [h1] at he
    unfold stkF at he
    cases hq : atS L ⟨b, r, (a.length : Nat)⟩ with
    | none =>
      rw [hq] at he
      dsimp only at he
      rw [List.append_nil] at he
      have hm := mfind_no (cv := loV) slV_keq hq
      have hll : (a.map Load.enc).length = ((stackL L b r).map Load.enc).length := by rw [he]
      refine AW_freeze [7] (id := 2000) ⟨rfl, trivial⟩ rfl rfl ?_
      repeat' (first | ((with_reducible refine gA ?_); (first | refine AW_seq ?_ | refine AW_region ?_ | refine AW_condT rfl ?_ | (refine AW_cond rfl (fun hc => ?_) (fun hc => ?_) <;> try (exfalso; simp only [cmpL] at hc; omega)) | refine AW_block ?_ | refine AW_ret ?_ | refine AW_skip ?_ | refine AW_exit ?_)) | ((with_reducible refine gS ?_); refine Es_s (T := Tryz.tab) rfl rfl rfl rfl ?_) | (((with_reducible refine gS ?_); apply Es_q); rfl; rfl; refine LStep_lookupNoZ (T := Tryz.tab) rfl rfl rfl keySl rfl rfl rfl rfl rfl rfl (sl_keys _) hm) | (((with_reducible refine gS ?_); apply Es_q); rfl; rfl; refine LStep_buildN (T := Tryz.tab) rfl rfl rfl rfl rfl rfl rfl) | (refine Es_skip rfl ?_ rfl ?_; (first | rfl | (refine w_tf ?_; assumption) | (refine w_ft ?_; assumption))) | (((with_reducible refine gS ?_); apply Es_xs); rfl; rfl; refine LStep_allocN (T := Tryz.tab) rfl rfl rfl rfl rfl rfl; rfl) | (((with_reducible refine gS ?_); apply Es_xn); rfl; rfl; (refine LStep_storeN (T := Tryz.tab) rfl rfl rfl rfl rfl rfl rfl ?_ rfl; (refine Nat.le_of_ble_eq_true ?_; rfl)); rfl) | (with_reducible refine Es_nil ?_) | (with_reducible refine then_n ?_) | (with_reducible refine then_e ?_) | ((with_reducible refine block_e ?_ ?_); rfl) | ((with_reducible refine block_x ?_ ?_); rfl) | ((with_reducible refine gR ?_); first | refine ret1 rfl ?_ | refine ret2 rfl rfl ?_ | refine ret0 ?_ | refine end1 rfl ?_ | refine end0 ?_))
      all_goals first
        | (rw [he]; exact ⟨rfl, by (repeat' (first | exact trivial | exact rfl | (refine ⟨Or.inl rfl, ?_⟩) | (refine ⟨Or.inr rfl, ?_⟩) | (refine ⟨Or.inr trivial, ?_⟩) | (refine ⟨rfl, ?_⟩) | (refine ⟨?_, ?_⟩)))⟩)
        | trace_state
    | some x =>
      rw [hq] at he
      dsimp only at he
      have hm := mfind_some (cv := loV) slV_keq hq
      have he2 : stackL L b r = (a ++ [x]) ++ stkF L b r (32 - (a ++ [x]).length) ((a ++ [x]).length : Nat) := by
        rw [he, List.append_assoc, List.length_append, List.length_singleton]
        rfl
      repeat' (first | ((with_reducible refine gA ?_); (first | refine AW_seq ?_ | refine AW_region ?_ | refine AW_condF rfl ?_ | (refine AW_cond rfl (fun hc => ?_) (fun hc => ?_) <;> try (exfalso; simp only [cmpL] at hc; omega)) | refine AW_block ?_ | refine AW_skip ?_)) | ((with_reducible refine gS ?_); refine Es_s (T := Tryz.tab) rfl rfl rfl rfl ?_) | (((with_reducible refine gS ?_); apply Es_q); rfl; rfl; refine LStep_lookupOk (T := Tryz.tab) rfl rfl rfl keySl rfl rfl rfl rfl (sl_keys _) hm) | (((with_reducible refine gS ?_); apply Es_xs); rfl; rfl; (refine LStep_append (T := Tryz.tab) rfl rfl rfl rfl rfl rfl rfl rfl rfl rfl ?_ ?_ ?_; rfl; (rw [List.length_map]; simp only [List.length_cons, List.length_nil]; omega); (unfold maxLen; rw [List.length_map]; simp only [List.length_cons, List.length_nil]; omega)); rfl) | (((with_reducible refine gS ?_); apply Es_q); rfl; rfl; (first | (refine LStep_add rfl rfl rfl rfl ?_; (refine IntWalk.i64_in _ ?_; first | omega | (simp only [cmps] at *; omega))) | (refine LStep_lit (T := Tryz.tab) rfl rfl rfl rfl rfl rfl rfl rfl ?_; (refine Nat.le_of_ble_eq_true ?_; rfl)) | refine LStep_buildN (T := Tryz.tab) rfl rfl rfl rfl rfl rfl rfl)) | (refine Es_skip rfl ?_ rfl ?_; (first | rfl | (refine w_tf ?_; assumption) | (refine w_ft ?_; assumption))) | (((with_reducible refine gS ?_); apply Es_xs); rfl; rfl; refine LStep_allocN (T := Tryz.tab) rfl rfl rfl rfl rfl rfl; rfl) | (((with_reducible refine gS ?_); apply Es_xn); rfl; rfl; (refine LStep_storeN (T := Tryz.tab) rfl rfl rfl rfl rfl rfl rfl ?_ rfl; (refine Nat.le_of_ble_eq_true ?_; rfl)); rfl) | (with_reducible refine Es_nil ?_) | (with_reducible refine then_n ?_) | (with_reducible refine block_n ?_))
      all_goals first
        | (refine ⟨a ++ [x], ⟨by rw [List.length_append, List.length_singleton]; omega, he2⟩, by rw [List.length_append, List.length_singleton]; omega, ?_, by (repeat' (first | exact trivial | exact rfl | (refine ⟨Or.inl rfl, ?_⟩) | (refine ⟨Or.inr rfl, ?_⟩) | (refine ⟨Or.inr trivial, ?_⟩) | (refine ⟨rfl, ?_⟩) | (refine ⟨?_, ?_⟩))), ?_, by (repeat' (first | exact trivial | exact rfl | (refine ⟨Or.inl rfl, ?_⟩) | (refine ⟨Or.inr rfl, ?_⟩) | (refine ⟨Or.inr trivial, ?_⟩) | (refine ⟨rfl, ?_⟩) | (refine ⟨?_, ?_⟩)))⟩
           · rw [List.map_append]; try rw [List.length_append, List.length_singleton]; (repeat' (first | exact trivial | exact rfl | (refine ⟨Or.inl rfl, ?_⟩) | (refine ⟨Or.inr rfl, ?_⟩) | (refine ⟨Or.inr trivial, ?_⟩) | (refine ⟨rfl, ?_⟩) | (refine ⟨?_, ?_⟩)))
           · rw [List.map_append]; exact ⟨rfl, trivial⟩)
  · have h1 : 32 - a.length = 0 := by omega
    rw [h1] at he
    have he' : stackL L b r = a := by rw [he]; simp [stkF]
    rw [he']
    have h2 : a.length = 32 := by omega
    refine AW_freeze [7] (id := 2000) ⟨rfl, trivial⟩ rfl rfl ?_
    repeat' (first | ((with_reducible refine gA ?_); (first | refine AW_seq ?_ | refine AW_region ?_ | (refine AW_cond rfl (fun hc => ?_) (fun hc => ?_) <;> try (exfalso; simp only [cmpL] at hc; omega)) | refine AW_ret ?_ | refine AW_exit ?_)) | ((with_reducible refine gS ?_); refine Es_s (T := Tryz.tab) rfl rfl rfl rfl ?_) | (with_reducible refine Es_nil ?_) | (with_reducible refine then_n ?_) | (with_reducible refine then_e ?_) | ((with_reducible refine block_e ?_ ?_); rfl) | ((with_reducible refine gR ?_); first | refine ret1 rfl ?_ | refine ret2 rfl rfl ?_ | refine ret0 ?_ | refine end1 rfl ?_ | refine end0 ?_))
    all_goals first
      | exact ⟨rfl, by (repeat' (first | exact trivial | exact rfl | (refine ⟨Or.inl rfl, ?_⟩) | (refine ⟨Or.inr rfl, ?_⟩) | (refine ⟨Or.inr trivial, ?_⟩) | (refine ⟨rfl, ?_⟩) | (refine ⟨?_, ?_⟩)))⟩
      | (exfalso; simp [h2] at *; done)
      | trace_state
theorem stkF_len (L : List Load) (b r : Int) : ∀ (k : Nat) (t : Int), (stkF L b r k t).length ≤ k
  | 0, t => Nat.le_refl _
  | k + 1, t => by
    unfold stkF
    cases atS L ⟨b, r, t⟩ with
    | none => exact Nat.zero_le _
    | some x =>
      have := stkF_len L b r k (t + 1)
      simp only [List.length_cons]
      omega
theorem stack_len (L : List Load) (b r : Int) : (stackL L b r).length ≤ 32 := stkF_len L b r 32 0
theorem stack_sub {L : List Load} (hn : (L.map (·.sl)).Nodup) {b r : Int} {x : Load} (h : x ∈ stackL L b r) : x ∈ L := (stkF_mem hn h).1
set_option maxRecDepth 10000 in
set_option maxHeartbeats 4000000 in
theorem Stack_ac (S : Ship) (L : List Load) (b r : Int) (hL : ∀ x ∈ stackL L b r, 0 ≤ x.w ∧ x.w ≤ 1048576) : AC Tryz.prog 69 [.ptr 1000 0, .d (.sc (.int .i64 b)), .d (.sc (.int .i64 r))] (hB S L) [1000, 1001, 1002] (fun v h' => v = .d (.sc (.int .i64 (wsum (stackL L b r)))) ∧ SubH (hB S L) h') := by
  have cs := stack_ac S L b r
  have h32 := stack_len L b r
  generalize stackL L b r = l at hL cs h32
  have hw0 : wsum (l.take 0) = 0 := by simp [wsum]
  refine AC_enter Tryz.func69 rfl Tryz.ntmps69 (rv := [.tmp 6]) rfl rfl (by simp) (fun w X G => ?_)
  repeat' (first | ((with_reducible refine gA ?_); (first | refine AW_seq ?_ | refine AW_region ?_ | refine AW_block ?_)) | ((with_reducible refine gS ?_); refine Es_s (T := Tryz.tab) rfl rfl rfl rfl ?_) | (((with_reducible refine gS ?_); apply Es_xg); rfl; rfl; refine LStep_callHN [] [] cs rfl rfl ⟨rfl, rfl, rfl, trivial⟩ rfl ⟨trivial, trivial, trivial, trivial⟩ rfl rfl; rfl) | (((with_reducible refine gS ?_); apply Es_q); rfl; rfl; refine LStep_lenM (T := Tryz.tab) rfl rfl rfl rfl) | (with_reducible refine Es_nil ?_) | (with_reducible refine then_n ?_))
  refine AW_forE (S := Nat) (fun k => k ≤ l.length) (fun k => [(15, .d (.sc (.int .i64 (k : Nat)))), (7, .d (.sc (.int .i64 (wsum (l.take k)))))]) (fun _ => []) (fun k => l.length - k) 0 (by omega) (by rw [hw0]; (repeat' (first | exact trivial | exact rfl | (refine ⟨Or.inl rfl, ?_⟩) | (refine ⟨Or.inr rfl, ?_⟩) | (refine ⟨Or.inr trivial, ?_⟩) | (refine ⟨rfl, ?_⟩) | (refine ⟨?_, ?_⟩)))) (by (repeat' (first | exact trivial | exact rfl | (refine ⟨Or.inl rfl, ?_⟩) | (refine ⟨Or.inr rfl, ?_⟩) | (refine ⟨Or.inr trivial, ?_⟩) | (refine ⟨rfl, ?_⟩) | (refine ⟨?_, ?_⟩)))) ?_
  intro k hk
  have hb : ∀ k : Nat, k ≤ 32 → 0 ≤ wsum (l.take k) ∧ wsum (l.take k) ≤ 1048576 * (k : Int) := by
    intro k
    induction k with
    | zero => intro _; simp [wsum]
    | succ k ih =>
      intro h
      have := ih (by omega)
      by_cases hlt : k < l.length
      · obtain ⟨x, hx, _⟩ := drop_at hlt
        rw [take_at hx, wsum_app]
        have h1 := hL x (List.mem_of_getElem? hx)
        have h2 : wsum [x] = x.w := by simp [wsum]
        omega
      · rw [List.take_of_length_le (by omega)] at this ⊢
        omega
  by_cases hlt : k < l.length
  · obtain ⟨x, hx, _⟩ := drop_at hlt
    have ht : wsum (l.take (k + 1)) = wsum (l.take k) + x.w := by rw [take_at hx, wsum_app]; simp [wsum]
    have h1 := hb k (by omega)
    have h2 := hL x (List.mem_of_getElem? hx)
    repeat' (first | ((with_reducible refine gA ?_); (first | refine AW_seq ?_ | refine AW_region ?_ | (refine AW_cond rfl (fun hc => ?_) (fun hc => ?_) <;> try (exfalso; simp only [cmpL] at hc; omega)) | refine AW_block ?_ | refine AW_skip ?_)) | ((with_reducible refine gS ?_); refine Es_s (T := Tryz.tab) rfl rfl rfl rfl ?_) | (((with_reducible refine gS ?_); apply Es_q); rfl; rfl; (first | (refine LStep_add rfl rfl rfl rfl ?_; (refine IntWalk.i64_in _ ?_; first | omega | (simp only [cmps] at *; omega))) | (refine LStep_indexM (T := Tryz.tab) (c := ?_) rfl rfl rfl rfl rfl rfl ?_; rotate_left; assumption))) | (refine Es_skip rfl ?_ rfl ?_; (first | rfl | (refine w_tf ?_; assumption) | (refine w_ft ?_; assumption))) | (((with_reducible refine gS ?_); apply Es_xs); rfl; rfl; refine LStep_allocN (T := Tryz.tab) rfl rfl rfl rfl rfl rfl; rfl) | (((with_reducible refine gS ?_); apply Es_xn); rfl; rfl; (refine LStep_storeN (T := Tryz.tab) rfl rfl rfl rfl rfl rfl rfl ?_ rfl; (refine Nat.le_of_ble_eq_true ?_; rfl)); rfl) | (with_reducible refine Es_nil ?_) | (with_reducible refine then_n ?_) | (with_reducible refine block_n ?_))
    all_goals first
      | (refine ⟨k + 1, by omega, by omega, ?_, by (repeat' (first | exact trivial | exact rfl | (refine ⟨Or.inl rfl, ?_⟩) | (refine ⟨Or.inr rfl, ?_⟩) | (refine ⟨Or.inr trivial, ?_⟩) | (refine ⟨rfl, ?_⟩) | (refine ⟨?_, ?_⟩))), by (repeat' (first | exact trivial | exact rfl | (refine ⟨Or.inl rfl, ?_⟩) | (refine ⟨Or.inr rfl, ?_⟩) | (refine ⟨Or.inr trivial, ?_⟩) | (refine ⟨rfl, ?_⟩) | (refine ⟨?_, ?_⟩)))⟩; rw [ht]; (repeat' (first | exact trivial | exact rfl | (refine ⟨Or.inl rfl, ?_⟩) | (refine ⟨Or.inr rfl, ?_⟩) | (refine ⟨Or.inr trivial, ?_⟩) | (refine ⟨rfl, ?_⟩) | (refine ⟨?_, ?_⟩))))
      | trace_state
  · have : k = l.length := by omega
    subst this
    rw [List.take_length]
    repeat' (first | ((with_reducible refine gA ?_); (first | refine AW_seq ?_ | refine AW_region ?_ | (refine AW_cond rfl (fun hc => ?_) (fun hc => ?_) <;> try (exfalso; simp only [cmpL] at hc; omega)) | refine AW_ret ?_ | refine AW_exit ?_)) | ((with_reducible refine gS ?_); refine Es_s (T := Tryz.tab) rfl rfl rfl rfl ?_) | (with_reducible refine Es_nil ?_) | (with_reducible refine then_n ?_) | (with_reducible refine then_e ?_) | ((with_reducible refine block_e ?_ ?_); rfl) | ((with_reducible refine gR ?_); first | refine ret1 rfl ?_ | refine ret2 rfl rfl ?_ | refine ret0 ?_ | refine end1 rfl ?_ | refine end0 ?_))
    all_goals first
      | exact ⟨rfl, by (repeat' (first | exact trivial | exact rfl | (refine ⟨Or.inl rfl, ?_⟩) | (refine ⟨Or.inr rfl, ?_⟩) | (refine ⟨Or.inr trivial, ?_⟩) | (refine ⟨rfl, ?_⟩) | (refine ⟨?_, ?_⟩)))⟩
      | trace_state
set_option maxRecDepth 10000 in
set_option maxHeartbeats 4000000 in
theorem unborne_ac (S : Ship) (L : List Load) (x : Load) (ht : 0 ≤ x.sl.t) (ht2 : x.sl.t ≤ 1048576) : AC Tryz.prog 67 [.ptr 1000 0, .agg x.cs2] (hB S L) [1000, 1001, 1002] (fun v h' => v = .d (.sc (.bool (unb L x))) ∧ SubH (hB S L) h') := by
  unfold unb
  cases hq : atS L ⟨x.sl.b, x.sl.r, x.sl.t - 1⟩ with
  | none =>
    have hm := mfind_no (cv := loV) slV_keq hq
    refine AC_enter Tryz.func67 rfl Tryz.ntmps67 (rv := [.tmp 4]) rfl rfl (by simp) (fun w X G => ?_)
    repeat' (first | ((with_reducible refine gA ?_); (first | refine AW_seq ?_ | refine AW_region ?_ | refine AW_regionD Tryz.mixed ?_ | (refine AW_cond rfl (fun hc => ?_) (fun hc => ?_) <;> try (exfalso; simp only [cmpL] at hc; omega)) | refine AW_ret ?_ | refine AW_skip ?_)) | (first | ((with_reducible refine gS ?_); refine Es_s (T := Tryz.tab) rfl rfl rfl rfl ?_) | ((with_reducible refine gD ?_); refine Ed_s (T := Tryz.tab) rfl rfl rfl rfl ?_)) | ((first | ((with_reducible refine gS ?_); apply Es_q) | ((with_reducible refine gD ?_); apply Ed_q)); rfl; rfl; refine LStep_lookupNoZ (T := Tryz.tab) rfl rfl rfl keySl rfl rfl rfl rfl rfl rfl (sl_keys _) hm) | ((first | ((with_reducible refine gS ?_); apply Es_q) | ((with_reducible refine gD ?_); apply Ed_q)); rfl; rfl; (refine LStep_sub rfl rfl rfl rfl ?_; (refine IntWalk.i64_in _ ?_; first | omega | (simp only [cmps] at *; omega)))) | ((first | refine Es_skip rfl ?_ rfl ?_ | refine Ed_skip rfl ?_ rfl ?_); (first | rfl | (refine w_tf ?_; assumption) | (refine w_ft ?_; assumption))) | ((first | ((with_reducible refine gS ?_); apply Es_xs) | ((with_reducible refine gD ?_); apply Ed_xs)); rfl; rfl; (first | refine LStep_boxN rfl rfl rfl rfl rfl rfl | refine LStep_allocN (T := Tryz.tab) rfl rfl rfl rfl rfl rfl); rfl) | ((first | ((with_reducible refine gS ?_); apply Es_xn) | ((with_reducible refine gD ?_); apply Ed_xn)); rfl; rfl; (refine LStep_storeN (T := Tryz.tab) rfl rfl rfl rfl rfl rfl rfl ?_ rfl; (refine Nat.le_of_ble_eq_true ?_; rfl)); rfl) | (with_reducible refine Es_nil ?_) | ((with_reducible refine Ed_nil ?_ ?_); kernel_rfl) | (with_reducible refine then_n ?_) | (with_reducible refine then_r ?_) | ((with_reducible refine gR ?_); first | refine ret1 rfl ?_ | refine ret2 rfl rfl ?_ | refine ret0 ?_ | refine end1 rfl ?_ | refine end0 ?_))
    all_goals simp only [cmps] at *
    all_goals first
      | (refine ⟨?_, by (repeat' (first | exact trivial | exact rfl | (refine ⟨Or.inl rfl, ?_⟩) | (refine ⟨Or.inr rfl, ?_⟩) | (refine ⟨Or.inr trivial, ?_⟩) | (refine ⟨rfl, ?_⟩) | (refine ⟨?_, ?_⟩)))⟩; refine congrArg (fun b => AV.d (D.sc (Value.bool b))) ?_; simp [*]; done)
      | trace_state
  | some y =>
    have hm := mfind_some (cv := loV) slV_keq hq
    refine AC_enter Tryz.func67 rfl Tryz.ntmps67 (rv := [.tmp 4]) rfl rfl (by simp) (fun w X G => ?_)
    repeat' (first | ((with_reducible refine gA ?_); (first | refine AW_seq ?_ | refine AW_region ?_ | refine AW_regionD Tryz.mixed ?_ | (refine AW_cond rfl (fun hc => ?_) (fun hc => ?_) <;> try (exfalso; simp only [cmpL] at hc; omega)) | refine AW_ret ?_ | refine AW_skip ?_)) | (first | ((with_reducible refine gS ?_); refine Es_s (T := Tryz.tab) rfl rfl rfl rfl ?_) | ((with_reducible refine gD ?_); refine Ed_s (T := Tryz.tab) rfl rfl rfl rfl ?_)) | ((first | ((with_reducible refine gS ?_); apply Es_q) | ((with_reducible refine gD ?_); apply Ed_q)); rfl; rfl; refine LStep_lookupOk (T := Tryz.tab) rfl rfl rfl keySl rfl rfl rfl rfl (sl_keys _) hm) | ((first | ((with_reducible refine gS ?_); apply Es_q) | ((with_reducible refine gD ?_); apply Ed_q)); rfl; rfl; (first | refine LStep_simp (T := Tryz.tab) rfl rfl | (refine LStep_sub rfl rfl rfl rfl ?_; (refine IntWalk.i64_in _ ?_; first | omega | (simp only [cmps] at *; omega))))) | ((first | refine Es_skip rfl ?_ rfl ?_ | refine Ed_skip rfl ?_ rfl ?_); (first | rfl | (refine w_tf ?_; assumption) | (refine w_ft ?_; assumption))) | ((first | ((with_reducible refine gS ?_); apply Es_xs) | ((with_reducible refine gD ?_); apply Ed_xs)); rfl; rfl; (first | refine LStep_boxN rfl rfl rfl rfl rfl rfl | refine LStep_allocN (T := Tryz.tab) rfl rfl rfl rfl rfl rfl); rfl) | ((first | ((with_reducible refine gS ?_); apply Es_xn) | ((with_reducible refine gD ?_); apply Ed_xn)); rfl; rfl; (refine LStep_storeN (T := Tryz.tab) rfl rfl rfl rfl rfl rfl rfl ?_ rfl; (refine Nat.le_of_ble_eq_true ?_; rfl)); rfl) | (with_reducible refine Es_nil ?_) | ((with_reducible refine Ed_nil ?_ ?_); kernel_rfl) | (with_reducible refine then_n ?_) | (with_reducible refine then_r ?_) | ((with_reducible refine gR ?_); first | refine ret1 rfl ?_ | refine ret2 rfl rfl ?_ | refine ret0 ?_ | refine end1 rfl ?_ | refine end0 ?_))
    all_goals simp only [cmps] at *
    all_goals first
      | (refine ⟨?_, by (repeat' (first | exact trivial | exact rfl | (refine ⟨Or.inl rfl, ?_⟩) | (refine ⟨Or.inr rfl, ?_⟩) | (refine ⟨Or.inr trivial, ?_⟩) | (refine ⟨rfl, ?_⟩) | (refine ⟨?_, ?_⟩)))⟩; refine congrArg (fun b => AV.d (D.sc (Value.bool b))) ?_; simp [*]; done)
      | (refine ⟨?_, by (repeat' (first | exact trivial | exact rfl | (refine ⟨Or.inl rfl, ?_⟩) | (refine ⟨Or.inr rfl, ?_⟩) | (refine ⟨Or.inr trivial, ?_⟩) | (refine ⟨rfl, ?_⟩) | (refine ⟨?_, ?_⟩)))⟩; refine congrArg (fun b => AV.d (D.sc (Value.bool b))) ?_; rw [Bool.eq_iff_iff]; simp [ltb_t, *]; done)
      | trace_state
end Go.Proofs.YtodgjgkoaahhmaaGreatDoor
namespace Go.Proofs.YtodgjgkoaahhmaaGreatDoor
open Go.SL
/-! ### what lies apart -/
def offCs : List AV := [.d (.sc (.int .i64 0)), .d (.sc (.int .i64 0)), .d (.sc (.int .i64 0)), .d (.sc (.int .i64 (-1))), .d (.sc (.int .i64 0)), .d (.sc (.int .i64 0)), .d (.sc (.int .i64 1)), .d (.sc (.int .i64 0)), .d (.sc (.int .i64 0)), .d (.sc (.int .i64 0)), .d (.sc (.int .i64 (-1))), .d (.sc (.int .i64 0)), .d (.sc (.int .i64 0)), .d (.sc (.int .i64 1)), .d (.sc (.int .i64 0))]
theorem off_at {k : Nat} {o : Int × Int} (h : offs[k]? = some o) : Nat.blt k 5 = true ∧ Nat.ble (k * 3 + 3) offCs.length = true ∧ (offCs.drop (k * 3)).take 3 = [.d (.sc (.int .i64 o.1)), .d (.sc (.int .i64 o.2)), .d (.sc (.int .i64 0))] ∧ (-1 ≤ o.1 ∧ o.1 ≤ 1) ∧ (-1 ≤ o.2 ∧ o.2 ≤ 1) := by
  match k, h with
  | 0, h => cases h; exact ⟨rfl, rfl, rfl, by decide, by decide⟩
  | 1, h => cases h; exact ⟨rfl, rfl, rfl, by decide, by decide⟩
  | 2, h => cases h; exact ⟨rfl, rfl, rfl, by decide, by decide⟩
  | 3, h => cases h; exact ⟨rfl, rfl, rfl, by decide, by decide⟩
  | 4, h => cases h; exact ⟨rfl, rfl, rfl, by decide, by decide⟩
  | k + 5, h => cases h
set_option maxRecDepth 10000 in
set_option maxHeartbeats 4000000 in
theorem hapart_ac (S : Ship) (L : List Load) (x : Load) (hb : 0 ≤ x.sl.b ∧ x.sl.b ≤ 1048576) (hr : 0 ≤ x.sl.r ∧ x.sl.r ≤ 1048576) : AC Tryz.prog 71 [.ptr 1000 0, .agg x.cs2] (hB S L ++ [hG]) [1000, 1001, 1002, 9000] (fun v h' => v = .d (.sc (.bool (clashP L x))) ∧ SubH (hB S L ++ [hG]) h') := by
  refine AC_enter Tryz.func71 rfl Tryz.ntmps71 (rv := [.tmp 4]) rfl rfl (by simp) (fun w X G => ?_)
  repeat' (first | ((with_reducible refine gA ?_); (first | refine AW_seq ?_ | refine AW_region ?_ | refine AW_block ?_)) | ((with_reducible refine gS ?_); refine Es_s (T := Tryz.tab) rfl rfl rfl rfl ?_) | (((with_reducible refine gS ?_); apply Es_q); rfl; rfl; refine LStep_buildArr (T := Tryz.tab) rfl rfl rfl rfl rfl rfl) | (((with_reducible refine gS ?_); apply Es_q); rfl; rfl; refine LStep_buildN (T := Tryz.tab) rfl rfl rfl rfl rfl rfl rfl) | (refine Es_skip rfl ?_ rfl ?_; (first | rfl | (refine w_tf ?_; assumption) | (refine w_ft ?_; assumption))) | (((with_reducible refine gS ?_); apply Es_xs); rfl; rfl; refine LStep_boxN rfl rfl rfl rfl rfl rfl; rfl) | (with_reducible refine Es_nil ?_) | (with_reducible refine then_n ?_))
  refine AW_forE (S := Nat) (fun k => k ≤ offs.length ∧ (offs.take k).any (stAny L x) = false) (fun k => [(15, .d (.sc (.int .i64 (k : Nat))))]) (fun _ => []) (fun k => offs.length - k) 0 ⟨by omega, rfl⟩ (by (repeat' (first | exact trivial | exact rfl | (refine ⟨Or.inl rfl, ?_⟩) | (refine ⟨Or.inr rfl, ?_⟩) | (refine ⟨Or.inr trivial, ?_⟩) | (refine ⟨rfl, ?_⟩) | (refine ⟨?_, ?_⟩)))) (by (repeat' (first | exact trivial | exact rfl | (refine ⟨Or.inl rfl, ?_⟩) | (refine ⟨Or.inr rfl, ?_⟩) | (refine ⟨Or.inr trivial, ?_⟩) | (refine ⟨rfl, ?_⟩) | (refine ⟨?_, ?_⟩)))) ?_
  intro k ⟨hk, hf⟩
  have h5 : offs.length = 5 := rfl
  by_cases hlt : k < offs.length
  · obtain ⟨o, ho, _⟩ := drop_at hlt
    obtain ⟨o1, o2, o3, o4, o5⟩ := off_at ho
    obtain ⟨hy, hn⟩ := any_takeB (f := stAny L x) ho hf
    have cs := stack_ac S L (x.sl.b + o.1) (x.sl.r + o.2)
    have h32 := stack_len L (x.sl.b + o.1) (x.sl.r + o.2)
    unfold stAny at hy hn
    generalize stackL L (x.sl.b + o.1) (x.sl.r + o.2) = l at hy hn cs h32
    repeat' (first | ((with_reducible refine gA ?_); (first | refine AW_seq ?_ | refine AW_region ?_ | (refine AW_cond rfl (fun hc => ?_) (fun hc => ?_) <;> try (exfalso; simp only [cmpL] at hc; omega)) | refine AW_block ?_ | refine AW_skip ?_)) | ((with_reducible refine gS ?_); refine Es_s (T := Tryz.tab) rfl rfl rfl rfl ?_) | (((with_reducible refine gS ?_); apply Es_q); rfl; rfl; refine LStep_idxArrA (T := Tryz.tab) (k := k) rfl rfl rfl rfl rfl rfl rfl o1 o2 o3) | (((with_reducible refine gS ?_); apply Es_xg); rfl; rfl; refine LStep_callHN [] [] cs rfl rfl ⟨rfl, rfl, rfl, trivial⟩ rfl ⟨trivial, trivial, trivial, trivial⟩ rfl rfl; rfl) | (((with_reducible refine gS ?_); apply Es_q); rfl; rfl; (first | refine LStep_lenM (T := Tryz.tab) rfl rfl rfl rfl | (refine LStep_add rfl rfl rfl rfl ?_; (refine IntWalk.i64_in _ ?_; first | omega | (simp only [cmps] at *; omega))))) | (refine Es_skip rfl ?_ rfl ?_; (first | rfl | (refine w_tf ?_; assumption) | (refine w_ft ?_; assumption))) | (((with_reducible refine gS ?_); apply Es_xs); rfl; rfl; refine LStep_allocN (T := Tryz.tab) rfl rfl rfl rfl rfl rfl; rfl) | (((with_reducible refine gS ?_); apply Es_xn); rfl; rfl; (refine LStep_storeN (T := Tryz.tab) rfl rfl rfl rfl rfl rfl rfl ?_ rfl; (refine Nat.le_of_ble_eq_true ?_; rfl)); rfl) | (with_reducible refine Es_nil ?_) | (with_reducible refine then_n ?_))
    refine AW_forE (S := Nat) (fun j => j ≤ l.length ∧ (l.take j).any (fun y => apB x.c y.c) = false) (fun j => [(33, .d (.sc (.int .i64 (j : Nat))))]) (fun _ => []) (fun j => l.length - j) 0 ⟨by omega, rfl⟩ (by (repeat' (first | exact trivial | exact rfl | (refine ⟨Or.inl rfl, ?_⟩) | (refine ⟨Or.inr rfl, ?_⟩) | (refine ⟨Or.inr trivial, ?_⟩) | (refine ⟨rfl, ?_⟩) | (refine ⟨?_, ?_⟩)))) (by (repeat' (first | exact trivial | exact rfl | (refine ⟨Or.inl rfl, ?_⟩) | (refine ⟨Or.inr rfl, ?_⟩) | (refine ⟨Or.inr trivial, ?_⟩) | (refine ⟨rfl, ?_⟩) | (refine ⟨?_, ?_⟩)))) ?_
    intro j ⟨hj, hg⟩
    by_cases hlj : j < l.length
    · obtain ⟨y, hyl, _⟩ := drop_at hlj
      obtain ⟨hy2, hn2⟩ := any_takeB (f := fun y : Load => apB x.c y.c) hyl hg
      have ca := apart_ac x.c y.c
      repeat' (first | ((with_reducible refine gA ?_); (first | refine AW_seq ?_ | refine AW_region ?_ | (refine AW_cond rfl (fun hc => ?_) (fun hc => ?_) <;> try (exfalso; simp only [cmpL] at hc; omega)) | refine AW_block ?_ | refine AW_ret ?_ | refine AW_skip ?_)) | ((with_reducible refine gS ?_); refine Es_s (T := Tryz.tab) rfl rfl rfl rfl ?_) | (((with_reducible refine gS ?_); apply Es_xg); rfl; rfl; refine LStep_callHN [] [] ca rfl rfl ⟨rfl, trivial⟩ rfl ⟨trivial, trivial⟩ rfl rfl; rfl) | (((with_reducible refine gS ?_); apply Es_q); rfl; rfl; (first | (refine LStep_add rfl rfl rfl rfl ?_; (refine IntWalk.i64_in _ ?_; first | omega | (simp only [cmps] at *; omega))) | (refine LStep_indexM (T := Tryz.tab) (c := ?_) rfl rfl rfl rfl rfl rfl ?_; rotate_left; assumption))) | (refine Es_skip rfl ?_ rfl ?_; (first | rfl | (refine w_tf ?_; assumption) | (refine w_ft ?_; assumption))) | (((with_reducible refine gS ?_); apply Es_xs); rfl; rfl; refine LStep_allocN (T := Tryz.tab) rfl rfl rfl rfl rfl rfl; rfl) | (((with_reducible refine gS ?_); apply Es_xn); rfl; rfl; (refine LStep_storeN (T := Tryz.tab) rfl rfl rfl rfl rfl rfl rfl ?_ rfl; (refine Nat.le_of_ble_eq_true ?_; rfl)); rfl) | (with_reducible refine Es_nil ?_) | (with_reducible refine then_n ?_) | (with_reducible refine then_r ?_) | (with_reducible refine block_n ?_) | (with_reducible refine block_r ?_) | ((with_reducible refine gR ?_); first | refine ret1 rfl ?_ | refine ret2 rfl rfl ?_ | refine ret0 ?_ | refine end1 rfl ?_ | refine end0 ?_))
      all_goals first
        | (have hq : (apB x.c y.c) = true := by assumption
           have h9 : clashP L x = true := hn (hn2 hq)
           rw [h9]; exact ⟨rfl, by (repeat' (first | exact trivial | exact rfl | (refine ⟨Or.inl rfl, ?_⟩) | (refine ⟨Or.inr rfl, ?_⟩) | (refine ⟨Or.inr trivial, ?_⟩) | (refine ⟨rfl, ?_⟩) | (refine ⟨?_, ?_⟩)))⟩)
        | (have hq : (apB x.c y.c) = false := by assumption
           refine ⟨j + 1, ?_, by omega, by (repeat' (first | exact trivial | exact rfl | (refine ⟨Or.inl rfl, ?_⟩) | (refine ⟨Or.inr rfl, ?_⟩) | (refine ⟨Or.inr trivial, ?_⟩) | (refine ⟨rfl, ?_⟩) | (refine ⟨?_, ?_⟩))), by (repeat' (first | exact trivial | exact rfl | (refine ⟨Or.inl rfl, ?_⟩) | (refine ⟨Or.inr rfl, ?_⟩) | (refine ⟨Or.inr trivial, ?_⟩) | (refine ⟨rfl, ?_⟩) | (refine ⟨?_, ?_⟩))), by (repeat' (first | exact trivial | exact rfl | (refine ⟨Or.inl rfl, ?_⟩) | (refine ⟨Or.inr rfl, ?_⟩) | (refine ⟨Or.inr trivial, ?_⟩) | (refine ⟨rfl, ?_⟩) | (refine ⟨?_, ?_⟩))), by (repeat' (first | exact trivial | exact rfl | (refine ⟨Or.inl rfl, ?_⟩) | (refine ⟨Or.inr rfl, ?_⟩) | (refine ⟨Or.inr trivial, ?_⟩) | (refine ⟨rfl, ?_⟩) | (refine ⟨?_, ?_⟩)))⟩; exact ⟨by omega, hy2 hq⟩)
        | trace_state
    · have : j = l.length := by omega
      subst this
      rw [List.take_length] at hg
      repeat' (first | ((with_reducible refine gA ?_); (first | refine AW_seq ?_ | refine AW_region ?_ | (refine AW_cond rfl (fun hc => ?_) (fun hc => ?_) <;> try (exfalso; simp only [cmpL] at hc; omega)) | refine AW_exit ?_)) | ((with_reducible refine gS ?_); refine Es_s (T := Tryz.tab) rfl rfl rfl rfl ?_) | (((with_reducible refine gS ?_); apply Es_q); rfl; rfl; (refine LStep_add rfl rfl rfl rfl ?_; (refine IntWalk.i64_in _ ?_; first | omega | (simp only [cmps] at *; omega)))) | (with_reducible refine Es_nil ?_) | (with_reducible refine then_n ?_) | (with_reducible refine then_e ?_) | (with_reducible refine block_n ?_) | ((with_reducible refine block_e ?_ ?_); rfl))
      all_goals first
        | (refine ⟨k + 1, ?_, by omega, by (repeat' (first | exact trivial | exact rfl | (refine ⟨Or.inl rfl, ?_⟩) | (refine ⟨Or.inr rfl, ?_⟩) | (refine ⟨Or.inr trivial, ?_⟩) | (refine ⟨rfl, ?_⟩) | (refine ⟨?_, ?_⟩))), by (repeat' (first | exact trivial | exact rfl | (refine ⟨Or.inl rfl, ?_⟩) | (refine ⟨Or.inr rfl, ?_⟩) | (refine ⟨Or.inr trivial, ?_⟩) | (refine ⟨rfl, ?_⟩) | (refine ⟨?_, ?_⟩))), by (repeat' (first | exact trivial | exact rfl | (refine ⟨Or.inl rfl, ?_⟩) | (refine ⟨Or.inr rfl, ?_⟩) | (refine ⟨Or.inr trivial, ?_⟩) | (refine ⟨rfl, ?_⟩) | (refine ⟨?_, ?_⟩))), by (repeat' (first | exact trivial | exact rfl | (refine ⟨Or.inl rfl, ?_⟩) | (refine ⟨Or.inr rfl, ?_⟩) | (refine ⟨Or.inr trivial, ?_⟩) | (refine ⟨rfl, ?_⟩) | (refine ⟨?_, ?_⟩)))⟩; exact ⟨by omega, hy hg⟩)
        | trace_state
  · have : k = offs.length := by omega
    subst this
    rw [List.take_length] at hf
    have h9 : clashP L x = false := hf
    rw [h9]
    repeat' (first | ((with_reducible refine gA ?_); (first | refine AW_seq ?_ | refine AW_region ?_ | (refine AW_cond rfl (fun hc => ?_) (fun hc => ?_) <;> try (exfalso; simp only [cmpL] at hc; omega)) | refine AW_ret ?_ | refine AW_exit ?_)) | ((with_reducible refine gS ?_); refine Es_s (T := Tryz.tab) rfl rfl rfl rfl ?_) | (with_reducible refine Es_nil ?_) | (with_reducible refine then_n ?_) | (with_reducible refine then_e ?_) | ((with_reducible refine block_e ?_ ?_); rfl) | ((with_reducible refine gR ?_); first | refine ret1 rfl ?_ | refine ret2 rfl rfl ?_ | refine ret0 ?_ | refine end1 rfl ?_ | refine end0 ?_))
    all_goals first
      | exact ⟨rfl, by (repeat' (first | exact trivial | exact rfl | (refine ⟨Or.inl rfl, ?_⟩) | (refine ⟨Or.inr rfl, ?_⟩) | (refine ⟨Or.inr trivial, ?_⟩) | (refine ⟨rfl, ?_⟩) | (refine ⟨?_, ?_⟩)))⟩
      | trace_state
end Go.Proofs.YtodgjgkoaahhmaaGreatDoor
namespace Go.Proofs.YtodgjgkoaahhmaaGreatDoor
open Go.SL
/-! ### what is to be lifted -/
theorem cntF_in (port : Int) : ∀ (lv : Bool) (l : List Load), 0 ≤ cntF port lv l ∧ cntF port lv l ≤ l.length
  | lv, [] => by simp [cntF]
  | lv, x :: l => by
    have h1 := cntF_in port true l
    have h2 := cntF_in port lv l
    rw [cntF, List.length_cons]
    split
    · omega
    · split <;> omega
theorem rowsSum_in {f : Int → Int} {c : Int} (h : ∀ i, 0 ≤ f i ∧ f i ≤ c) (hc : 0 ≤ c) : ∀ n : Nat, 0 ≤ rowsSum f n ∧ rowsSum f n ≤ c * n
  | 0 => by simp [rowsSum]
  | n + 1 => by
    have h1 := rowsSum_in h hc n
    have h2 := h n
    rw [rowsSum, Int.natCast_succ, Int.mul_add]
    omega
set_option maxRecDepth 10000 in
set_option maxHeartbeats 4000000 in
theorem over_ac (S : Ship) (L : List Load) (port : Int) (B R : Nat) (hB' : S.bays = B) (hR : S.rows = R) (hB32 : B ≤ 32) (hR32 : R ≤ 32) : AC Tryz.prog 23 [.ptr 1000 0, .d (.sc (.int .i64 port))] (hB S L) [1000, 1001, 1002] (fun v h' => v = .d (.sc (.int .i64 (rowsSum (fun b => rowsSum (fun r => cntF port false (stackL L b r)) R) B))) ∧ SubH (hB S L) h') := by
  have i1 : ∀ b r, 0 ≤ cntF port false (stackL L b r) ∧ cntF port false (stackL L b r) ≤ 32 := fun b r => by
    have h1 := cntF_in port false (stackL L b r)
    have h2 := stack_len L b r
    omega
  have i2 := fun b => rowsSum_in (i1 b) (by omega)
  have i3 : ∀ b, 0 ≤ rowsSum (fun r => cntF port false (stackL L b r)) R ∧ rowsSum (fun r => cntF port false (stackL L b r)) R ≤ 1024 := fun b => by
    have := i2 b R
    omega
  have i4 := rowsSum_in i3 (by omega)
  have z1 : rowsSum (fun b => rowsSum (fun r => cntF port false (stackL L b r)) R) 0 = 0 := rfl
  refine AC_enter Tryz.func23 rfl Tryz.ntmps23 (rv := [.tmp 4]) rfl rfl (by simp) (fun w X G => ?_)
  repeat' (first | ((with_reducible refine gA ?_); (first | refine AW_seq ?_ | refine AW_region ?_ | refine AW_block ?_)) | ((with_reducible refine gS ?_); refine Es_s (T := Tryz.tab) rfl rfl rfl rfl ?_) | (with_reducible refine Es_nil ?_) | (with_reducible refine then_n ?_))
  refine AW_forE (S := Nat) (fun k => k ≤ B) (fun k => [(16, .d (.sc (.int .i64 (k : Nat)))), (5, .d (.sc (.int .i64 (rowsSum (fun b => rowsSum (fun r => cntF port false (stackL L b r)) R) k))))]) (fun _ => []) (fun k => B - k) 0 (by omega) (by (repeat' (first | exact trivial | exact rfl | (refine ⟨Or.inl rfl, ?_⟩) | (refine ⟨Or.inr rfl, ?_⟩) | (refine ⟨Or.inr trivial, ?_⟩) | (refine ⟨rfl, ?_⟩) | (refine ⟨?_, ?_⟩)))) (by (repeat' (first | exact trivial | exact rfl | (refine ⟨Or.inl rfl, ?_⟩) | (refine ⟨Or.inr rfl, ?_⟩) | (refine ⟨Or.inr trivial, ?_⟩) | (refine ⟨rfl, ?_⟩) | (refine ⟨?_, ?_⟩)))) ?_
  intro k hk
  by_cases hlt : k < B
  · have hkb : ltb (k : Nat) S.bays = true := by rw [hB', ltb_t]; omega
    have e1 : rowsSum (fun b => rowsSum (fun r => cntF port false (stackL L b r)) R) (k + 1) = rowsSum (fun b => rowsSum (fun r => cntF port false (stackL L b r)) R) k + rowsSum (fun r => cntF port false (stackL L k r)) R := rfl
    have j1 := i4 k
    generalize rowsSum (fun b => rowsSum (fun r => cntF port false (stackL L b r)) R) k = n at e1 j1
    repeat' (first | ((with_reducible refine gA ?_); (first | refine AW_seq ?_ | refine AW_region ?_ | (refine AW_condY rfl ?_ ?_; assumption) | refine AW_block ?_ | refine AW_skip ?_)) | ((with_reducible refine gS ?_); refine Es_s (T := Tryz.tab) rfl rfl rfl rfl ?_) | (with_reducible refine Es_nil ?_) | (with_reducible refine then_n ?_))
    all_goals try (exfalso; rw [hkb] at *; simp at *; done)
    refine AW_forE (S := Nat) (fun j => j ≤ R) (fun j => [(24, .d (.sc (.int .i64 (j : Nat)))), (5, .d (.sc (.int .i64 (n + rowsSum (fun r => cntF port false (stackL L k r)) j))))]) (fun _ => []) (fun j => R - j) 0 (by omega) (by rw [show n + rowsSum (fun r => cntF port false (stackL L k r)) 0 = n from Int.add_zero n]; (repeat' (first | exact trivial | exact rfl | (refine ⟨Or.inl rfl, ?_⟩) | (refine ⟨Or.inr rfl, ?_⟩) | (refine ⟨Or.inr trivial, ?_⟩) | (refine ⟨rfl, ?_⟩) | (refine ⟨?_, ?_⟩)))) (by (repeat' (first | exact trivial | exact rfl | (refine ⟨Or.inl rfl, ?_⟩) | (refine ⟨Or.inr rfl, ?_⟩) | (refine ⟨Or.inr trivial, ?_⟩) | (refine ⟨rfl, ?_⟩) | (refine ⟨?_, ?_⟩)))) ?_
    intro j hj
    by_cases hlj : j < R
    · have hjb : ltb (j : Nat) S.rows = true := by rw [hR, ltb_t]; omega
      have e2 : rowsSum (fun r => cntF port false (stackL L k r)) (j + 1) = rowsSum (fun r => cntF port false (stackL L k r)) j + cntF port false (stackL L k j) := rfl
      have j2 := i2 k j
      generalize rowsSum (fun r => cntF port false (stackL L k r)) j = m at e2 j2
      have cs := stack_ac S L k j
      have h32 := stack_len L k j
      generalize stackL L k j = l at e2 cs h32
      repeat' (first | ((with_reducible refine gA ?_); (first | refine AW_seq ?_ | refine AW_region ?_ | (refine AW_condY rfl ?_ ?_; assumption) | refine AW_block ?_ | refine AW_skip ?_)) | ((with_reducible refine gS ?_); refine Es_s (T := Tryz.tab) rfl rfl rfl rfl ?_) | (((with_reducible refine gS ?_); apply Es_xg); rfl; rfl; refine LStep_callHN [] [] cs rfl rfl ⟨rfl, rfl, rfl, trivial⟩ rfl ⟨trivial, trivial, trivial, trivial⟩ rfl rfl; rfl) | (((with_reducible refine gS ?_); apply Es_q); rfl; rfl; refine LStep_lenM (T := Tryz.tab) rfl rfl rfl rfl) | (with_reducible refine Es_nil ?_) | (with_reducible refine then_n ?_))
      all_goals try (exfalso; rw [hjb] at *; simp at *; done)
      refine AW_forE (S := Nat) (fun i => i ≤ l.length) (fun i => [(32, .d (.sc (.int .i64 (i : Nat)))), (8, .d (.sc (.bool ((l.take i).any fun x => decide (x.p ≤ port))))), (5, .d (.sc (.int .i64 (n + m + cntF port false (l.take i)))))]) (fun _ => []) (fun i => l.length - i) 0 (by omega) (by rw [show n + m + cntF port false (l.take 0) = n + m from Int.add_zero _]; (repeat' (first | exact trivial | exact rfl | (refine ⟨Or.inl rfl, ?_⟩) | (refine ⟨Or.inr rfl, ?_⟩) | (refine ⟨Or.inr trivial, ?_⟩) | (refine ⟨rfl, ?_⟩) | (refine ⟨?_, ?_⟩)))) (by (repeat' (first | exact trivial | exact rfl | (refine ⟨Or.inl rfl, ?_⟩) | (refine ⟨Or.inr rfl, ?_⟩) | (refine ⟨Or.inr trivial, ?_⟩) | (refine ⟨rfl, ?_⟩) | (refine ⟨?_, ?_⟩)))) ?_
      intro i hi
      by_cases hli : i < l.length
      · obtain ⟨x, hx, _⟩ := drop_at hli
        have t1 : cntF port false (l.take (i + 1)) = cntF port false (l.take i) + (if x.p ≤ port then 0 else if ((l.take i).any fun x => decide (x.p ≤ port)) = true then 1 else 0) := by
          rw [take_at hx, cntF_app, Bool.false_or]
          simp [cntF]
        have t2 : ((l.take (i + 1)).any fun x => decide (x.p ≤ port)) = (((l.take i).any fun x => decide (x.p ≤ port)) || decide (x.p ≤ port)) := by
          rw [take_at hx, List.any_append]; simp
        have j3 := cntF_in port false (l.take i)
        have j4 : (l.take i).length ≤ 32 := by rw [List.length_take]; omega
        generalize cntF port false (l.take i) = q at t1 j3
        generalize ((l.take i).any fun x => decide (x.p ≤ port)) = lv at t1 t2
        repeat' (first | ((with_reducible refine gA ?_); (first | refine AW_seq ?_ | refine AW_region ?_ | (refine AW_cond rfl (fun hc => ?_) (fun hc => ?_) <;> try (exfalso; simp only [cmpL] at hc; omega)) | refine AW_block ?_ | refine AW_skip ?_)) | ((with_reducible refine gS ?_); refine Es_s (T := Tryz.tab) rfl rfl rfl rfl ?_) | (((with_reducible refine gS ?_); apply Es_q); rfl; rfl; (first | (refine LStep_add rfl rfl rfl rfl ?_; (refine IntWalk.i64_in _ ?_; first | omega | (simp only [cmps] at *; omega))) | (refine LStep_indexM (T := Tryz.tab) (c := ?_) rfl rfl rfl rfl rfl rfl ?_; rotate_left; assumption))) | (refine Es_skip rfl ?_ rfl ?_; (first | rfl | (refine w_tf ?_; assumption) | (refine w_ft ?_; assumption))) | (((with_reducible refine gS ?_); apply Es_xs); rfl; rfl; refine LStep_allocN (T := Tryz.tab) rfl rfl rfl rfl rfl rfl; rfl) | (((with_reducible refine gS ?_); apply Es_xn); rfl; rfl; (refine LStep_storeN (T := Tryz.tab) rfl rfl rfl rfl rfl rfl rfl ?_ rfl; (refine Nat.le_of_ble_eq_true ?_; rfl)); rfl) | (with_reducible refine Es_nil ?_) | (with_reducible refine then_n ?_) | (with_reducible refine block_n ?_))
        all_goals simp only [cmps] at *
        all_goals first
          | (refine ⟨i + 1, by omega, by omega, ?_, by (repeat' (first | exact trivial | exact rfl | (refine ⟨Or.inl rfl, ?_⟩) | (refine ⟨Or.inr rfl, ?_⟩) | (refine ⟨Or.inr trivial, ?_⟩) | (refine ⟨rfl, ?_⟩) | (refine ⟨?_, ?_⟩))), by (repeat' (first | exact trivial | exact rfl | (refine ⟨Or.inl rfl, ?_⟩) | (refine ⟨Or.inr rfl, ?_⟩) | (refine ⟨Or.inr trivial, ?_⟩) | (refine ⟨rfl, ?_⟩) | (refine ⟨?_, ?_⟩))), by (repeat' (first | exact trivial | exact rfl | (refine ⟨Or.inl rfl, ?_⟩) | (refine ⟨Or.inr rfl, ?_⟩) | (refine ⟨Or.inr trivial, ?_⟩) | (refine ⟨rfl, ?_⟩) | (refine ⟨?_, ?_⟩)))⟩
             rw [t1, t2]
             first
               | (have hp : x.p ≤ port := by omega
                  simp only [if_pos hp, decide_eq_true hp, Bool.or_true, Int.add_zero]; (repeat' (first | exact trivial | exact rfl | (refine ⟨Or.inl rfl, ?_⟩) | (refine ⟨Or.inr rfl, ?_⟩) | (refine ⟨Or.inr trivial, ?_⟩) | (refine ⟨rfl, ?_⟩) | (refine ⟨?_, ?_⟩))))
               | (have hp : ¬ x.p ≤ port := by omega
                  have hl : lv = true := by assumption
                  simp only [if_neg hp, decide_eq_false hp, Bool.or_false, hl, if_true, ← Int.add_assoc]; (repeat' (first | exact trivial | exact rfl | (refine ⟨Or.inl rfl, ?_⟩) | (refine ⟨Or.inr rfl, ?_⟩) | (refine ⟨Or.inr trivial, ?_⟩) | (refine ⟨rfl, ?_⟩) | (refine ⟨?_, ?_⟩))))
               | (have hp : ¬ x.p ≤ port := by omega
                  have hl : lv = false := by assumption
                  simp only [if_neg hp, decide_eq_false hp, Bool.or_false, hl, Bool.false_eq_true, if_false, Int.add_zero]; (repeat' (first | exact trivial | exact rfl | (refine ⟨Or.inl rfl, ?_⟩) | (refine ⟨Or.inr rfl, ?_⟩) | (refine ⟨Or.inr trivial, ?_⟩) | (refine ⟨rfl, ?_⟩) | (refine ⟨?_, ?_⟩)))))
          | trace_state
      · have : i = l.length := by omega
        subst this
        rw [List.take_length]
        repeat' (first | ((with_reducible refine gA ?_); (first | refine AW_seq ?_ | refine AW_region ?_ | (refine AW_cond rfl (fun hc => ?_) (fun hc => ?_) <;> try (exfalso; simp only [cmpL] at hc; omega)) | refine AW_exit ?_)) | ((with_reducible refine gS ?_); refine Es_s (T := Tryz.tab) rfl rfl rfl rfl ?_) | (((with_reducible refine gS ?_); apply Es_q); rfl; rfl; (refine LStep_add rfl rfl rfl rfl ?_; (refine IntWalk.i64_in _ ?_; first | omega | (simp only [cmps] at *; omega)))) | (with_reducible refine Es_nil ?_) | (with_reducible refine then_n ?_) | (with_reducible refine then_e ?_) | (with_reducible refine block_n ?_) | ((with_reducible refine block_e ?_ ?_); rfl))
        all_goals first
          | (refine ⟨j + 1, by omega, by omega, ?_, by (repeat' (first | exact trivial | exact rfl | (refine ⟨Or.inl rfl, ?_⟩) | (refine ⟨Or.inr rfl, ?_⟩) | (refine ⟨Or.inr trivial, ?_⟩) | (refine ⟨rfl, ?_⟩) | (refine ⟨?_, ?_⟩))), by (repeat' (first | exact trivial | exact rfl | (refine ⟨Or.inl rfl, ?_⟩) | (refine ⟨Or.inr rfl, ?_⟩) | (refine ⟨Or.inr trivial, ?_⟩) | (refine ⟨rfl, ?_⟩) | (refine ⟨?_, ?_⟩))), by (repeat' (first | exact trivial | exact rfl | (refine ⟨Or.inl rfl, ?_⟩) | (refine ⟨Or.inr rfl, ?_⟩) | (refine ⟨Or.inr trivial, ?_⟩) | (refine ⟨rfl, ?_⟩) | (refine ⟨?_, ?_⟩)))⟩
             rw [e2, ← Int.add_assoc]; (repeat' (first | exact trivial | exact rfl | (refine ⟨Or.inl rfl, ?_⟩) | (refine ⟨Or.inr rfl, ?_⟩) | (refine ⟨Or.inr trivial, ?_⟩) | (refine ⟨rfl, ?_⟩) | (refine ⟨?_, ?_⟩))))
          | trace_state
    · have : j = R := by omega
      subst this
      have hjb : ltb (j : Nat) S.rows = false := by rw [hR, ltb_d]; simp
      repeat' (first | ((with_reducible refine gA ?_); (first | refine AW_seq ?_ | refine AW_region ?_ | (refine AW_condN rfl ?_ ?_; assumption) | refine AW_exit ?_)) | ((with_reducible refine gS ?_); refine Es_s (T := Tryz.tab) rfl rfl rfl rfl ?_) | (((with_reducible refine gS ?_); apply Es_q); rfl; rfl; (refine LStep_add rfl rfl rfl rfl ?_; (refine IntWalk.i64_in _ ?_; first | omega | (simp only [cmps] at *; omega)))) | (with_reducible refine Es_nil ?_) | (with_reducible refine then_n ?_) | (with_reducible refine then_e ?_) | (with_reducible refine block_n ?_) | ((with_reducible refine block_e ?_ ?_); rfl))
      all_goals try (exfalso; rw [hjb] at *; simp at *; done)
      all_goals first
        | (refine ⟨k + 1, by omega, by omega, ?_, by (repeat' (first | exact trivial | exact rfl | (refine ⟨Or.inl rfl, ?_⟩) | (refine ⟨Or.inr rfl, ?_⟩) | (refine ⟨Or.inr trivial, ?_⟩) | (refine ⟨rfl, ?_⟩) | (refine ⟨?_, ?_⟩))), by (repeat' (first | exact trivial | exact rfl | (refine ⟨Or.inl rfl, ?_⟩) | (refine ⟨Or.inr rfl, ?_⟩) | (refine ⟨Or.inr trivial, ?_⟩) | (refine ⟨rfl, ?_⟩) | (refine ⟨?_, ?_⟩))), by (repeat' (first | exact trivial | exact rfl | (refine ⟨Or.inl rfl, ?_⟩) | (refine ⟨Or.inr rfl, ?_⟩) | (refine ⟨Or.inr trivial, ?_⟩) | (refine ⟨rfl, ?_⟩) | (refine ⟨?_, ?_⟩)))⟩
           rw [e1]; (repeat' (first | exact trivial | exact rfl | (refine ⟨Or.inl rfl, ?_⟩) | (refine ⟨Or.inr rfl, ?_⟩) | (refine ⟨Or.inr trivial, ?_⟩) | (refine ⟨rfl, ?_⟩) | (refine ⟨?_, ?_⟩))))
        | trace_state
  · have : k = B := by omega
    subst this
    have hkb : ltb (k : Nat) S.bays = false := by rw [hB', ltb_d]; simp
    repeat' (first | ((with_reducible refine gA ?_); (first | refine AW_seq ?_ | refine AW_region ?_ | (refine AW_condN rfl ?_ ?_; assumption) | refine AW_ret ?_ | refine AW_exit ?_)) | ((with_reducible refine gS ?_); refine Es_s (T := Tryz.tab) rfl rfl rfl rfl ?_) | (with_reducible refine Es_nil ?_) | (with_reducible refine then_n ?_) | (with_reducible refine then_e ?_) | ((with_reducible refine block_e ?_ ?_); rfl) | ((with_reducible refine gR ?_); first | refine ret1 rfl ?_ | refine ret2 rfl rfl ?_ | refine ret0 ?_ | refine end1 rfl ?_ | refine end0 ?_))
    all_goals try (exfalso; rw [hkb] at *; simp at *; done)
    all_goals first
      | exact ⟨rfl, by (repeat' (first | exact trivial | exact rfl | (refine ⟨Or.inl rfl, ?_⟩) | (refine ⟨Or.inr rfl, ?_⟩) | (refine ⟨Or.inr trivial, ?_⟩) | (refine ⟨rfl, ?_⟩) | (refine ⟨?_, ?_⟩)))⟩
      | trace_state
end Go.Proofs.YtodgjgkoaahhmaaGreatDoor
namespace Go.Proofs.YtodgjgkoaahhmaaGreatDoor
open Go.SL
/-! ### what is asked ahead of a put -/
def hP (S : Ship) (L : List Load) (x : Load) : Hp := hB S L ++ [(1003, some (.cells [.ptr 1000 0])), (1004, some (.cells x.cs2)), hG]
def hPid : List Nat := [1000, 1001, 1002, 1003, 1004, 9000]
section
variable (S : Ship) (L : List Load) (x : Load)
set_option maxRecDepth 10000 in
set_option maxHeartbeats 2000000 in
theorem put1_ac : AC Tryz.prog 60 [.ptr 1004 0] (hP S L x) hPid (fun r h' => r = .d (.sc (.bool (!mayL x))) ∧ SubH (hP S L x) h') := by
  have c := mayLoad_ac x
  refine AC_enter Tryz.func60 rfl Tryz.ntmps60 (rv := [.tmp 1]) rfl rfl (by simp) (fun w X G => ?_)
  repeat' (first | ((with_reducible refine gA ?_); (first | refine AW_seq ?_ | refine AW_region ?_ | refine AW_ret ?_)) | ((with_reducible refine gS ?_); refine Es_s (T := Tryz.tab) rfl rfl rfl rfl ?_) | (((with_reducible refine gS ?_); apply Es_q); rfl; rfl; refine LStep_call (c) rfl rfl rfl rfl) | (with_reducible refine Es_nil ?_) | (with_reducible refine then_n ?_) | ((with_reducible refine gR ?_); first | refine ret1 rfl ?_ | refine ret2 rfl rfl ?_ | refine ret0 ?_ | refine end1 rfl ?_ | refine end0 ?_))
  all_goals first
    | exact ⟨rfl, by (repeat' (first | exact trivial | exact rfl | (refine ⟨Or.inl rfl, ?_⟩) | (refine ⟨Or.inr rfl, ?_⟩) | (refine ⟨Or.inr trivial, ?_⟩) | (refine ⟨rfl, ?_⟩) | (refine ⟨?_, ?_⟩)))⟩
    | trace_state
set_option maxRecDepth 10000 in
set_option maxHeartbeats 2000000 in
theorem put2_ac : AC Tryz.prog 62 [.ptr 1003 0, .ptr 1004 0] (hP S L x) hPid (fun r h' => r = .d (.sc (.bool (byB L x.box).isSome)) ∧ SubH (hP S L x) h') := by
  cases hf : byB L x.box with
  | some a =>
    have hm := mfind_some (cv := loV) sV_keq hf
    refine AC_enter Tryz.func62 rfl Tryz.ntmps62 (rv := [.tmp 2]) rfl rfl (by simp) (fun w X G => ?_)
    repeat' (first | ((with_reducible refine gA ?_); (first | refine AW_seq ?_ | refine AW_region ?_ | refine AW_regionD Tryz.mixed ?_ | refine AW_ret ?_)) | (first | ((with_reducible refine gS ?_); refine Es_s (T := Tryz.tab) rfl rfl rfl rfl ?_) | ((with_reducible refine gD ?_); refine Ed_s (T := Tryz.tab) rfl rfl rfl rfl ?_)) | (((with_reducible refine gD ?_); apply Ed_q); rfl; rfl; refine LStep_lookupOk (T := Tryz.tab) rfl rfl rfl rfl rfl rfl rfl rfl (s_keys _) hm) | (refine Ed_skip rfl ?_ rfl ?_; (first | rfl | (refine w_tf ?_; assumption) | (refine w_ft ?_; assumption))) | (((with_reducible refine gD ?_); apply Ed_xs); rfl; rfl; refine LStep_allocN (T := Tryz.tab) rfl rfl rfl rfl rfl rfl; rfl) | (((with_reducible refine gD ?_); apply Ed_xn); rfl; rfl; (refine LStep_storeN (T := Tryz.tab) rfl rfl rfl rfl rfl rfl rfl ?_ rfl; (refine Nat.le_of_ble_eq_true ?_; rfl)); rfl) | (with_reducible refine Es_nil ?_) | ((with_reducible refine Ed_nil ?_ ?_); kernel_rfl) | (with_reducible refine then_n ?_) | ((with_reducible refine gR ?_); first | refine ret1 rfl ?_ | refine ret2 rfl rfl ?_ | refine ret0 ?_ | refine end1 rfl ?_ | refine end0 ?_))
    all_goals first
      | exact ⟨rfl, by (repeat' (first | exact trivial | exact rfl | (refine ⟨Or.inl rfl, ?_⟩) | (refine ⟨Or.inr rfl, ?_⟩) | (refine ⟨Or.inr trivial, ?_⟩) | (refine ⟨rfl, ?_⟩) | (refine ⟨?_, ?_⟩)))⟩
      | trace_state
  | none =>
    have hm := mfind_no (cv := loV) sV_keq hf
    refine AC_enter Tryz.func62 rfl Tryz.ntmps62 (rv := [.tmp 2]) rfl rfl (by simp) (fun w X G => ?_)
    repeat' (first | ((with_reducible refine gA ?_); (first | refine AW_seq ?_ | refine AW_region ?_ | refine AW_regionD Tryz.mixed ?_ | refine AW_ret ?_)) | (first | ((with_reducible refine gS ?_); refine Es_s (T := Tryz.tab) rfl rfl rfl rfl ?_) | ((with_reducible refine gD ?_); refine Ed_s (T := Tryz.tab) rfl rfl rfl rfl ?_)) | (((with_reducible refine gD ?_); apply Ed_q); rfl; rfl; refine LStep_lookupNoZ (T := Tryz.tab) rfl rfl rfl rfl rfl rfl rfl rfl rfl rfl (s_keys _) hm) | (refine Ed_skip rfl ?_ rfl ?_; (first | rfl | (refine w_tf ?_; assumption) | (refine w_ft ?_; assumption))) | (((with_reducible refine gD ?_); apply Ed_xs); rfl; rfl; refine LStep_allocN (T := Tryz.tab) rfl rfl rfl rfl rfl rfl; rfl) | (((with_reducible refine gD ?_); apply Ed_xn); rfl; rfl; (refine LStep_storeN (T := Tryz.tab) rfl rfl rfl rfl rfl rfl rfl ?_ rfl; (refine Nat.le_of_ble_eq_true ?_; rfl)); rfl) | (with_reducible refine Es_nil ?_) | ((with_reducible refine Ed_nil ?_ ?_); kernel_rfl) | (with_reducible refine then_n ?_) | ((with_reducible refine gR ?_); first | refine ret1 rfl ?_ | refine ret2 rfl rfl ?_ | refine ret0 ?_ | refine end1 rfl ?_ | refine end0 ?_))
    all_goals first
      | exact ⟨rfl, by (repeat' (first | exact trivial | exact rfl | (refine ⟨Or.inl rfl, ?_⟩) | (refine ⟨Or.inr rfl, ?_⟩) | (refine ⟨Or.inr trivial, ?_⟩) | (refine ⟨rfl, ?_⟩) | (refine ⟨?_, ?_⟩)))⟩
      | trace_state
set_option maxRecDepth 10000 in
set_option maxHeartbeats 2000000 in
theorem put3_ac (hS : (0 ≤ S.bays ∧ S.bays ≤ 1048576) ∧ (0 ≤ S.rows ∧ S.rows ≤ 1048576) ∧ (0 ≤ S.tiers ∧ S.tiers ≤ 1048576)) : AC Tryz.prog 63 [.ptr 1003 0, .ptr 1004 0] (hP S L x) hPid (fun r h' => r = .d (.sc (.bool (!onB S x.sl))) ∧ SubH (hP S L x) h') := by
  have c := has_ac S L x.sl hS
  refine AC_enter Tryz.func63 rfl Tryz.ntmps63 (rv := [.tmp 2]) rfl rfl (by simp) (fun w X G => ?_)
  repeat' (first | ((with_reducible refine gA ?_); (first | refine AW_seq ?_ | refine AW_region ?_ | refine AW_ret ?_)) | ((with_reducible refine gS ?_); refine Es_s (T := Tryz.tab) rfl rfl rfl rfl ?_) | (((with_reducible refine gS ?_); apply Es_xg); rfl; rfl; refine LStep_callHN [] [] c rfl rfl ⟨rfl, rfl, rfl, trivial⟩ rfl ⟨trivial, trivial, trivial, trivial⟩ rfl rfl; rfl) | (with_reducible refine Es_nil ?_) | (with_reducible refine then_n ?_) | ((with_reducible refine gR ?_); first | refine ret1 rfl ?_ | refine ret2 rfl rfl ?_ | refine ret0 ?_ | refine end1 rfl ?_ | refine end0 ?_))
  all_goals first
    | exact ⟨rfl, by (repeat' (first | exact trivial | exact rfl | (refine ⟨Or.inl rfl, ?_⟩) | (refine ⟨Or.inr rfl, ?_⟩) | (refine ⟨Or.inr trivial, ?_⟩) | (refine ⟨rfl, ?_⟩) | (refine ⟨?_, ?_⟩)))⟩
    | trace_state
set_option maxRecDepth 10000 in
set_option maxHeartbeats 2000000 in
theorem put4_ac : AC Tryz.prog 65 [.ptr 1003 0, .ptr 1004 0] (hP S L x) hPid (fun r h' => r = .d (.sc (.bool (atS L x.sl).isSome)) ∧ SubH (hP S L x) h') := by
  cases hf : atS L x.sl with
  | some a =>
    have hm := mfind_some (cv := loV) slV_keq hf
    refine AC_enter Tryz.func65 rfl Tryz.ntmps65 (rv := [.tmp 2]) rfl rfl (by simp) (fun w X G => ?_)
    repeat' (first | ((with_reducible refine gA ?_); (first | refine AW_seq ?_ | refine AW_region ?_ | refine AW_regionD Tryz.mixed ?_ | refine AW_ret ?_)) | (first | ((with_reducible refine gS ?_); refine Es_s (T := Tryz.tab) rfl rfl rfl rfl ?_) | ((with_reducible refine gD ?_); refine Ed_s (T := Tryz.tab) rfl rfl rfl rfl ?_)) | (((with_reducible refine gD ?_); apply Ed_q); rfl; rfl; refine LStep_lookupOk (T := Tryz.tab) rfl rfl rfl keySl rfl rfl rfl rfl (sl_keys _) hm) | (refine Ed_skip rfl ?_ rfl ?_; (first | rfl | (refine w_tf ?_; assumption) | (refine w_ft ?_; assumption))) | (((with_reducible refine gD ?_); apply Ed_xs); rfl; rfl; refine LStep_allocN (T := Tryz.tab) rfl rfl rfl rfl rfl rfl; rfl) | (((with_reducible refine gD ?_); apply Ed_xn); rfl; rfl; (refine LStep_storeN (T := Tryz.tab) rfl rfl rfl rfl rfl rfl rfl ?_ rfl; (refine Nat.le_of_ble_eq_true ?_; rfl)); rfl) | (with_reducible refine Es_nil ?_) | ((with_reducible refine Ed_nil ?_ ?_); kernel_rfl) | (with_reducible refine then_n ?_) | ((with_reducible refine gR ?_); first | refine ret1 rfl ?_ | refine ret2 rfl rfl ?_ | refine ret0 ?_ | refine end1 rfl ?_ | refine end0 ?_))
    all_goals first
      | exact ⟨rfl, by (repeat' (first | exact trivial | exact rfl | (refine ⟨Or.inl rfl, ?_⟩) | (refine ⟨Or.inr rfl, ?_⟩) | (refine ⟨Or.inr trivial, ?_⟩) | (refine ⟨rfl, ?_⟩) | (refine ⟨?_, ?_⟩)))⟩
      | trace_state
  | none =>
    have hm := mfind_no (cv := loV) slV_keq hf
    refine AC_enter Tryz.func65 rfl Tryz.ntmps65 (rv := [.tmp 2]) rfl rfl (by simp) (fun w X G => ?_)
    repeat' (first | ((with_reducible refine gA ?_); (first | refine AW_seq ?_ | refine AW_region ?_ | refine AW_regionD Tryz.mixed ?_ | refine AW_ret ?_)) | (first | ((with_reducible refine gS ?_); refine Es_s (T := Tryz.tab) rfl rfl rfl rfl ?_) | ((with_reducible refine gD ?_); refine Ed_s (T := Tryz.tab) rfl rfl rfl rfl ?_)) | (((with_reducible refine gD ?_); apply Ed_q); rfl; rfl; refine LStep_lookupNoZ (T := Tryz.tab) rfl rfl rfl keySl rfl rfl rfl rfl rfl rfl (sl_keys _) hm) | (refine Ed_skip rfl ?_ rfl ?_; (first | rfl | (refine w_tf ?_; assumption) | (refine w_ft ?_; assumption))) | (((with_reducible refine gD ?_); apply Ed_xs); rfl; rfl; refine LStep_allocN (T := Tryz.tab) rfl rfl rfl rfl rfl rfl; rfl) | (((with_reducible refine gD ?_); apply Ed_xn); rfl; rfl; (refine LStep_storeN (T := Tryz.tab) rfl rfl rfl rfl rfl rfl rfl ?_ rfl; (refine Nat.le_of_ble_eq_true ?_; rfl)); rfl) | (with_reducible refine Es_nil ?_) | ((with_reducible refine Ed_nil ?_ ?_); kernel_rfl) | (with_reducible refine then_n ?_) | ((with_reducible refine gR ?_); first | refine ret1 rfl ?_ | refine ret2 rfl rfl ?_ | refine ret0 ?_ | refine end1 rfl ?_ | refine end0 ?_))
    all_goals first
      | exact ⟨rfl, by (repeat' (first | exact trivial | exact rfl | (refine ⟨Or.inl rfl, ?_⟩) | (refine ⟨Or.inr rfl, ?_⟩) | (refine ⟨Or.inr trivial, ?_⟩) | (refine ⟨rfl, ?_⟩) | (refine ⟨?_, ?_⟩)))⟩
      | trace_state
set_option maxRecDepth 10000 in
set_option maxHeartbeats 2000000 in
theorem put5_ac (ht : 0 ≤ x.sl.t) (ht2 : x.sl.t ≤ 1048576) : AC Tryz.prog 66 [.ptr 1003 0, .ptr 1004 0] (hP S L x) hPid (fun r h' => r = .d (.sc (.bool (unb L x))) ∧ SubH (hP S L x) h') := by
  have c := unborne_ac S L x ht ht2
  refine AC_enter Tryz.func66 rfl Tryz.ntmps66 (rv := [.tmp 2]) rfl rfl (by simp) (fun w X G => ?_)
  repeat' (first | ((with_reducible refine gA ?_); (first | refine AW_seq ?_ | refine AW_region ?_ | refine AW_ret ?_)) | ((with_reducible refine gS ?_); refine Es_s (T := Tryz.tab) rfl rfl rfl rfl ?_) | (((with_reducible refine gS ?_); apply Es_xg); rfl; rfl; refine LStep_callHN [] [] c rfl rfl ⟨rfl, rfl, rfl, trivial⟩ rfl ⟨trivial, trivial, trivial, trivial⟩ rfl rfl; rfl) | (with_reducible refine Es_nil ?_) | (with_reducible refine then_n ?_) | ((with_reducible refine gR ?_); first | refine ret1 rfl ?_ | refine ret2 rfl rfl ?_ | refine ret0 ?_ | refine end1 rfl ?_ | refine end0 ?_))
  all_goals first
    | exact ⟨rfl, by (repeat' (first | exact trivial | exact rfl | (refine ⟨Or.inl rfl, ?_⟩) | (refine ⟨Or.inr rfl, ?_⟩) | (refine ⟨Or.inr trivial, ?_⟩) | (refine ⟨rfl, ?_⟩) | (refine ⟨?_, ?_⟩)))⟩
    | trace_state
set_option maxRecDepth 10000 in
set_option maxHeartbeats 2000000 in
theorem put6_ac (hL : ∀ y ∈ stackL L x.sl.b x.sl.r, 0 ≤ y.w ∧ y.w ≤ 1048576) (hT : 0 ≤ wsum L ∧ wsum L ≤ 1048576) (hx : 0 ≤ x.w ∧ x.w ≤ 1048576) (hW : 0 ≤ wsum (stackL L x.sl.b x.sl.r) ∧ wsum (stackL L x.sl.b x.sl.r) ≤ 1048576) : AC Tryz.prog 68 [.ptr 1003 0, .ptr 1004 0] (hP S L x) hPid (fun r h' => r = .d (.sc (.bool (decide (S.stack < wsum (stackL L x.sl.b x.sl.r) + x.w ∨ S.most < wsum L + x.w)))) ∧ SubH (hP S L x) h') := by
  have c : AC Tryz.prog 69 [.ptr 1000 0, .d (.sc (.int .i64 x.sl.b)), .d (.sc (.int .i64 x.sl.r))] (hB S L) [1000, 1001, 1002] (fun v h' => v = .d (.sc (.int .i64 (wsum (stackL L x.sl.b x.sl.r)))) ∧ Kp (hB S L) h') := (Stack_ac S L x.sl.b x.sl.r hL).mono (fun _ _ h => ⟨h.1, Kp.sub h.2⟩)
  generalize wsum (stackL L x.sl.b x.sl.r) = v at c hW
  refine AC_enter Tryz.func68 rfl Tryz.ntmps68 (rv := [.tmp 2]) rfl rfl (by simp) (fun w X G => ?_)
  repeat' (first | ((with_reducible refine gA ?_); (first | refine AW_seq ?_ | refine AW_region ?_ | refine AW_regionD Tryz.mixed ?_ | refine AW_ret ?_)) | (first | ((with_reducible refine gS ?_); refine Es_s (T := Tryz.tab) rfl rfl rfl rfl ?_) | ((with_reducible refine gD ?_); refine Ed_s (T := Tryz.tab) rfl rfl rfl rfl ?_)) | (((with_reducible refine gD ?_); apply Ed_q); rfl; (first | rfl | (refine w_ff ?_; assumption)); refine LStep_callB c rfl rfl ⟨rfl, rfl, rfl, trivial⟩ rfl rfl) | (((with_reducible refine gD ?_); apply Ed_q); rfl; (first | rfl | (refine w_ff ?_; assumption)); (first | refine LStep_simp (T := Tryz.tab) rfl rfl | (refine LStep_add rfl rfl rfl rfl ?_; (refine IntWalk.i64_in _ ?_; first | omega | (simp only [cmps] at *; omega))) | (refine LStep_pickT rfl rfl ?_ rfl rfl; assumption) | (refine LStep_pickF rfl rfl ?_ rfl rfl; assumption))) | (refine Ed_skip rfl ?_ rfl ?_; (first | rfl | (refine w_tf ?_; assumption) | (refine w_ft ?_; assumption))) | (refine Ed_split rfl ?_ (fun _ => ?_) (fun _ => ?_); ((fail_if_success (refine und_t ?_; assumption)); (fail_if_success (refine und_f ?_; assumption)); exact trivial)) | (with_reducible refine Es_nil ?_) | ((with_reducible refine Ed_nil ?_ ?_); kernel_rfl) | (with_reducible refine then_n ?_) | ((with_reducible refine gR ?_); first | refine ret1 rfl ?_ | refine ret2 rfl rfl ?_ | refine ret0 ?_ | refine end1 rfl ?_ | refine end0 ?_))
  all_goals simp only [cmps] at *
  all_goals first
    | (refine ⟨?_, by (repeat' (first | exact trivial | exact rfl | (refine ⟨Or.inl rfl, ?_⟩) | (refine ⟨Or.inr rfl, ?_⟩) | (refine ⟨Or.inr trivial, ?_⟩) | (refine ⟨rfl, ?_⟩) | (refine ⟨?_, ?_⟩)))⟩; refine congrArg (fun b => AV.d (D.sc (Value.bool b))) ?_; rw [Bool.eq_iff_iff]; simp [ltb_t, *]; done)
    | (refine ⟨?_, by (repeat' (first | exact trivial | exact rfl | (refine ⟨Or.inl rfl, ?_⟩) | (refine ⟨Or.inr rfl, ?_⟩) | (refine ⟨Or.inr trivial, ?_⟩) | (refine ⟨rfl, ?_⟩) | (refine ⟨?_, ?_⟩)))⟩; refine congrArg (fun b => AV.d (D.sc (Value.bool b))) ?_; rw [Bool.eq_iff_iff]; simp [ltb_t, *]; omega)
    | trace_state
set_option maxRecDepth 10000 in
set_option maxHeartbeats 2000000 in
theorem put7_ac (hb : 0 ≤ x.sl.b ∧ x.sl.b ≤ 1048576) (hr : 0 ≤ x.sl.r ∧ x.sl.r ≤ 1048576) : AC Tryz.prog 70 [.ptr 1003 0, .ptr 1004 0] (hP S L x) hPid (fun r h' => r = .d (.sc (.bool (clashP L x))) ∧ SubH (hP S L x) h') := by
  have c := hapart_ac S L x hb hr
  refine AC_enter Tryz.func70 rfl Tryz.ntmps70 (rv := [.tmp 2]) rfl rfl (by simp) (fun w X G => ?_)
  repeat' (first | ((with_reducible refine gA ?_); (first | refine AW_seq ?_ | refine AW_region ?_ | refine AW_ret ?_)) | ((with_reducible refine gS ?_); refine Es_s (T := Tryz.tab) rfl rfl rfl rfl ?_) | (((with_reducible refine gS ?_); apply Es_xg); rfl; rfl; refine LStep_callHN [] [] c rfl rfl ⟨rfl, rfl, rfl, rfl, trivial⟩ rfl ⟨trivial, trivial, trivial, trivial, trivial⟩ rfl rfl; rfl) | (with_reducible refine Es_nil ?_) | (with_reducible refine then_n ?_) | ((with_reducible refine gR ?_); first | refine ret1 rfl ?_ | refine ret2 rfl rfl ?_ | refine ret0 ?_ | refine end1 rfl ?_ | refine end0 ?_))
  all_goals first
    | exact ⟨rfl, by (repeat' (first | exact trivial | exact rfl | (refine ⟨Or.inl rfl, ?_⟩) | (refine ⟨Or.inr rfl, ?_⟩) | (refine ⟨Or.inr trivial, ?_⟩) | (refine ⟨rfl, ?_⟩) | (refine ⟨?_, ?_⟩)))⟩
    | trace_state
end
end Go.Proofs.YtodgjgkoaahhmaaGreatDoor
namespace Go.Proofs.YtodgjgkoaahhmaaGreatDoor
open Go.SL
/-! ### a load is taken -/
def takeE (L : List Load) (n : ByteArray) : Int := match byB L n with
  | none => 4
  | some x => if (atS L ⟨x.sl.b, x.sl.r, x.sl.t + 1⟩).isSome = true then 6 else 0
def takeX (L : List Load) (n : ByteArray) : Load := if takeE L n = 0 then (byB L n).getD zL else zL
def takeL (L : List Load) (n : ByteArray) : List Load := if takeE L n = 0 then delL L ((byB L n).getD zL) else L
theorem tk_fin {S : Ship} {L L' : List Load} {n : ByteArray} {k : Int} {y : Load} {h' : Hp} (h1 : takeE L n = k) (h2 : takeX L n = y) (h3 : takeL L n = L') (h : SubH (hB S L') h') : AV.tup [.agg y.cs2, .d (.sc (.int .i64 k))] = .tup [.agg (takeX L n).cs2, .d (.sc (.int .i64 (takeE L n)))] ∧ SubH (hB S (takeL L n)) h' := by rw [h1, h2, h3]; exact ⟨rfl, h⟩
set_option maxRecDepth 10000 in
set_option maxHeartbeats 4000000 in
theorem take_ac (S : Ship) (L : List Load) (n : ByteArray) (hv : Inv S L) (hT : 0 ≤ wsum L ∧ wsum L ≤ 1048576) (ht : S.tiers ≤ 1048576) : AC Tryz.prog 18 [.ptr 1000 0, .d (.sc (.string n))] (hB S L) [1000, 1001, 1002] (fun r h' => r = .tup [.agg (takeX L n).cs2, .d (.sc (.int .i64 (takeE L n)))] ∧ SubH (hB S (takeL L n)) h') := by
  cases hf : byB L n with
  | none =>
    have hm := mfind_no (cv := loV) sV_keq hf
    have e1 : takeE L n = 4 := by unfold takeE; rw [hf]
    have e2 : takeX L n = zL := by unfold takeX; rw [e1]; rfl
    have e3 : takeL L n = L := by unfold takeL; rw [e1]; rfl
    refine AC_enterG Tryz.tab Tryz.func18 rfl Tryz.ntmps18 (rv := [.cell 4 40, .tmp 5]) rfl rfl (by simp) (fun w X G => ?_)
    repeat' (first | ((with_reducible refine gA ?_); (first | refine AW_seq ?_ | refine AW_region ?_ | refine AW_condT rfl ?_ | refine AW_ret ?_)) | ((with_reducible refine gS ?_); refine Es_s (T := Tryz.tab) rfl rfl rfl rfl ?_) | (((with_reducible refine gS ?_); apply Es_q); rfl; rfl; refine LStep_lookupNoZ (T := Tryz.tab) rfl rfl rfl rfl rfl rfl rfl rfl rfl rfl (s_keys _) hm) | (((with_reducible refine gS ?_); apply Es_q); rfl; rfl; refine LStep_buildN (T := Tryz.tab) rfl rfl rfl rfl rfl rfl rfl) | (refine Es_skip rfl ?_ rfl ?_; (first | rfl | (refine w_tf ?_; assumption) | (refine w_ft ?_; assumption))) | (((with_reducible refine gS ?_); apply Es_xs); rfl; rfl; refine LStep_allocN (T := Tryz.tab) rfl rfl rfl rfl rfl rfl; rfl) | (((with_reducible refine gS ?_); apply Es_xn); rfl; rfl; (refine LStep_storeN (T := Tryz.tab) rfl rfl rfl rfl rfl rfl rfl ?_ rfl; (refine Nat.le_of_ble_eq_true ?_; rfl)); rfl) | (with_reducible refine Es_nil ?_) | (with_reducible refine then_n ?_) | (with_reducible refine then_r ?_) | ((with_reducible refine gRG ?_); first | refine retGa rfl ?_ | refine retGb rfl ?_ | refine retGc rfl ?_ | refine retG1 rfl rfl ?_ | refine endG1 rfl rfl ?_))
    all_goals first
      | (refine tk_fin e1 e2 e3 ?_; unfold hB; (repeat' (first | exact trivial | exact rfl | (refine ⟨Or.inl rfl, ?_⟩) | (refine ⟨Or.inr rfl, ?_⟩) | (refine ⟨Or.inr trivial, ?_⟩) | (refine ⟨rfl, ?_⟩) | (refine ⟨?_, ?_⟩))); done)
      | trace_state
  | some x =>
    have hm := mfind_some (cv := loV) sV_keq hf
    obtain ⟨hx, hn⟩ := (byB_some hv.nB).1 hf
    have ho := hv.on x hx
    have hw := hv.ok x hx
    cases hq : atS L ⟨x.sl.b, x.sl.r, x.sl.t + 1⟩ with
    | some y =>
      have hm2 := mfind_some (cv := loV) slV_keq hq
      have e1 : takeE L n = 6 := by unfold takeE; rw [hf]; simp only [hq, Option.isSome_some, if_true]
      have e2 : takeX L n = zL := by unfold takeX; rw [e1]; rfl
      have e3 : takeL L n = L := by unfold takeL; rw [e1]; rfl
      refine AC_enterG Tryz.tab Tryz.func18 rfl Tryz.ntmps18 (rv := [.cell 4 40, .tmp 5]) rfl rfl (by simp) (fun w X G => ?_)
      repeat' (first | ((with_reducible refine gA ?_); (first | refine AW_seq ?_ | refine AW_region ?_ | refine AW_regionD Tryz.mixed ?_ | refine AW_condT rfl ?_ | refine AW_condF rfl ?_ | refine AW_ret ?_ | refine AW_skip ?_)) | (first | ((with_reducible refine gS ?_); refine Es_s (T := Tryz.tab) rfl rfl rfl rfl ?_) | ((with_reducible refine gD ?_); refine Ed_s (T := Tryz.tab) rfl rfl rfl rfl ?_)) | ((first | ((with_reducible refine gS ?_); apply Es_q) | ((with_reducible refine gD ?_); apply Ed_q)); rfl; rfl; (first | refine LStep_lookupOk (T := Tryz.tab) rfl rfl rfl rfl rfl rfl rfl rfl (s_keys _) hm | refine LStep_lookupOk (T := Tryz.tab) rfl rfl rfl keySl rfl rfl rfl rfl (sl_keys _) hm2)) | ((first | ((with_reducible refine gS ?_); apply Es_q) | ((with_reducible refine gD ?_); apply Ed_q)); rfl; rfl; (first | (refine LStep_add rfl rfl rfl rfl ?_; (refine IntWalk.i64_in _ ?_; first | omega | (simp only [cmps] at *; omega))) | refine LStep_buildN (T := Tryz.tab) rfl rfl rfl rfl rfl rfl rfl)) | ((first | refine Es_skip rfl ?_ rfl ?_ | refine Ed_skip rfl ?_ rfl ?_); (first | rfl | (refine w_tf ?_; assumption) | (refine w_ft ?_; assumption))) | ((first | ((with_reducible refine gS ?_); apply Es_xs) | ((with_reducible refine gD ?_); apply Ed_xs)); rfl; rfl; refine LStep_allocN (T := Tryz.tab) rfl rfl rfl rfl rfl rfl; rfl) | ((first | ((with_reducible refine gS ?_); apply Es_xn) | ((with_reducible refine gD ?_); apply Ed_xn)); rfl; rfl; (refine LStep_storeN (T := Tryz.tab) rfl rfl rfl rfl rfl rfl rfl ?_ rfl; (refine Nat.le_of_ble_eq_true ?_; rfl)); rfl) | (with_reducible refine Es_nil ?_) | ((with_reducible refine Ed_nil ?_ ?_); kernel_rfl) | (with_reducible refine then_n ?_) | (with_reducible refine then_r ?_) | ((with_reducible refine gRG ?_); first | refine retGa rfl ?_ | refine retGb rfl ?_ | refine retGc rfl ?_ | refine retG1 rfl rfl ?_ | refine endG1 rfl rfl ?_))
      all_goals first
        | (refine tk_fin e1 e2 e3 ?_; unfold hB; (repeat' (first | exact trivial | exact rfl | (refine ⟨Or.inl rfl, ?_⟩) | (refine ⟨Or.inr rfl, ?_⟩) | (refine ⟨Or.inr trivial, ?_⟩) | (refine ⟨rfl, ?_⟩) | (refine ⟨?_, ?_⟩))); done)
        | trace_state
    | none =>
      have hm2 := mfind_no (cv := loV) slV_keq hq
      have e1 : takeE L n = 0 := by unfold takeE; rw [hf]; simp only [hq, Option.isSome_none, Bool.false_eq_true, if_false]
      have e2 : takeX L n = x := by unfold takeX; rw [e1, hf]; rfl
      have e3 : takeL L n = delL L x := by unfold takeL; rw [e1, hf]; rfl
      have d1 : mdel (slV x.sl) (emap slV loV (slM L)) = emap slV loV (slM (delL L x)) := by rw [mdel_emap slV_keq, del_slM hv.nS hx]
      have d2 : mdel (sV n) (emap sV loV (nmM L)) = emap sV loV (nmM (delL L x)) := by rw [mdel_emap sV_keq, ← hn, del_nmM hv.nB hx]
      have d3 : wsum L - x.w = wsum (delL L x) := by
        have := wsum_perm (del_perm (nodup_of_map hv.nS) hx)
        rw [wsum_cons] at this
        omega
      refine AC_enterG Tryz.tab Tryz.func18 rfl Tryz.ntmps18 (rv := [.cell 4 40, .tmp 5]) rfl rfl (by simp) (fun w X G => ?_)
      repeat' (first | ((with_reducible refine gA ?_); (first | refine AW_seq ?_ | refine AW_region ?_ | refine AW_regionD Tryz.mixed ?_ | refine AW_condF rfl ?_ | refine AW_ret ?_ | refine AW_skip ?_)) | (first | ((with_reducible refine gS ?_); refine Es_s (T := Tryz.tab) rfl rfl rfl rfl ?_) | ((with_reducible refine gD ?_); refine Ed_s (T := Tryz.tab) rfl rfl rfl rfl ?_)) | ((first | ((with_reducible refine gS ?_); apply Es_q) | ((with_reducible refine gD ?_); apply Ed_q)); rfl; rfl; (first | refine LStep_lookupOk (T := Tryz.tab) rfl rfl rfl rfl rfl rfl rfl rfl (s_keys _) hm | refine LStep_lookupNoZ (T := Tryz.tab) rfl rfl rfl keySl rfl rfl rfl rfl rfl rfl (sl_keys _) hm2)) | ((first | ((with_reducible refine gS ?_); apply Es_xn) | ((with_reducible refine gD ?_); apply Ed_xn)); rfl; rfl; (first | refine LStep_delete (T := Tryz.tab) rfl rfl rfl rfl rfl rfl rfl rfl (s_keys _) (fun _ _ _ h => by cases h) | refine LStep_delete (T := Tryz.tab) rfl rfl rfl keySl rfl rfl rfl rfl (sl_keys _) (fun _ _ _ h => by cases h)); rfl) | ((first | ((with_reducible refine gS ?_); apply Es_q) | ((with_reducible refine gD ?_); apply Ed_q)); rfl; rfl; (first | (refine LStep_add rfl rfl rfl rfl ?_; (refine IntWalk.i64_in _ ?_; first | omega | (simp only [cmps] at *; omega))) | (refine LStep_sub rfl rfl rfl rfl ?_; (refine IntWalk.i64_in _ ?_; first | omega | (simp only [cmps] at *; omega))))) | ((first | refine Es_skip rfl ?_ rfl ?_ | refine Ed_skip rfl ?_ rfl ?_); (first | rfl | (refine w_tf ?_; assumption) | (refine w_ft ?_; assumption))) | ((first | ((with_reducible refine gS ?_); apply Es_xs) | ((with_reducible refine gD ?_); apply Ed_xs)); rfl; rfl; refine LStep_allocN (T := Tryz.tab) rfl rfl rfl rfl rfl rfl; rfl) | ((first | ((with_reducible refine gS ?_); apply Es_xn) | ((with_reducible refine gD ?_); apply Ed_xn)); rfl; rfl; (refine LStep_storeN (T := Tryz.tab) rfl rfl rfl rfl rfl rfl rfl ?_ rfl; (refine Nat.le_of_ble_eq_true ?_; rfl)); rfl) | (with_reducible refine Es_nil ?_) | ((with_reducible refine Ed_nil ?_ ?_); kernel_rfl) | (with_reducible refine then_n ?_) | ((with_reducible refine gRG ?_); first | refine retGa rfl ?_ | refine retGb rfl ?_ | refine retGc rfl ?_ | refine retG1 rfl rfl ?_ | refine endG1 rfl rfl ?_))
      all_goals first
        | (refine tk_fin e1 e2 e3 ?_
           unfold hB
           rw [← d1, ← d2, ← d3]
           (repeat' (first | exact trivial | exact rfl | (refine ⟨Or.inl rfl, ?_⟩) | (refine ⟨Or.inr rfl, ?_⟩) | (refine ⟨Or.inr trivial, ?_⟩) | (refine ⟨rfl, ?_⟩) | (refine ⟨?_, ?_⟩))); done)
        | trace_state
end Go.Proofs.YtodgjgkoaahhmaaGreatDoor
