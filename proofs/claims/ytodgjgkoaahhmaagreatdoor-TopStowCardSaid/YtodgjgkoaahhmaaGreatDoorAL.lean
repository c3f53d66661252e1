import Derived.Test.YtodgjgkoaahhmaaGreatDoorA7
import Derived.Test.YtodgjgkoaahhmaaGreatDoorSy
import Derived.Test.YtodgjgkoaahhmaaGreatDoorSq
import Derived.Test.YtodgjgkoaahhmaaGreatDoorSp
import Derived.Test.YtodgjgkoaahhmaaGreatDoorH1
namespace Go.Proofs.YtodgjgkoaahhmaaGreatDoor
open Go.SL
/-! ### the loads of a hold, in some order -/
theorem perm_mid {α : Type} {acc a b m : List α} {p : α} (hp : (acc ++ (a ++ p :: b)).Perm m) : ((acc ++ [p]) ++ (a ++ b)).Perm m := by
  refine List.Perm.trans ?_ hp
  rw [List.append_assoc]
  exact List.Perm.append_left acc (by simpa using (List.perm_middle (a := p) (l₁ := a) (l₂ := b)).symm)
def iterE : List AV := [.ptr 1000 0]
def mvals {κ α : Type} (l : List (κ × α)) : List α := l.map (·.2)
def itH (l : List (Sl × Load)) : Hp := [(1000, some (.cells [.mp 1003])), (1003, some (.map 38 40 (emap slV loV l) none))]
def outH (l : List (Sl × Load)) (v : List Load) : Hp := (2000, some (.arr 40 7 (v.map Load.enc))) :: itH l
set_option maxRecDepth 10000 in
theorem appendSeq_ac (l : List (Sl × Load)) (hk : (akeys l).Nodup) (hl : l.length ≤ 1048576) : AC Tryz.prog 102 [.d (.sc (.slice none 0 0)), .fn 80 iterE] (itH l) [1000, 1003]
    (fun r h' => ∃ v : List Load, v.Perm (mvals l) ∧ r = .own 2000 v.length ∧ SubH (outH l v) h') := by
  refine AC_enterM Tryz.func102 rfl Tryz.ntmps102 (t := 4) rfl rfl (by simp) (fun w X G => ?_)
  refine RW_seqA ?_
  repeat' (first | ((with_reducible refine gA ?_); refine AW_region ?_) | ((with_reducible refine gS ?_); refine Es_s (T := Tryz.tab) rfl rfl rfl rfl ?_) | (refine Es_skip rfl ?_ rfl ?_; (first | rfl | (refine w_tf ?_; assumption) | (refine w_ft ?_; assumption))) | (((with_reducible refine gS ?_); apply Es_xs); rfl; rfl; refine LStep_boxN rfl rfl rfl rfl rfl rfl; rfl) | (with_reducible refine Es_nil ?_))
  refine ⟨rfl, RW_openCell 40 7 2 0 2000 rfl rfl rfl rfl rfl ?_⟩
  refine RW_seqR (RW_seqA ?_)
  repeat' (first | ((with_reducible refine gA ?_); refine AW_region ?_) | ((with_reducible refine gS ?_); refine Es_s (T := Tryz.tab) rfl rfl rfl rfl ?_) | (with_reducible refine Es_nil ?_))
  refine ⟨rfl, RW_rangeB 3000 3001 [2, 1000, 1003] rfl Tryz.func80 rfl Tryz.ntmps80 rfl rfl (by simp) rfl rfl rfl rfl rfl rfl rfl rfl rfl rfl (fun lo D rec G0 hr1 hr2 hr3 hr4 hr5 hr6 hst => ?_)⟩
  have hr6 : rec.tmps.size = 13 := hr6
  have hkS := emap_nodup (cv := loV) slV_inj hk
  unfold itH iterE
  repeat' (first | ((with_reducible refine gA ?_); (first | refine AW_seq ?_ | refine AW_region ?_ | refine AW_block ?_)) | ((with_reducible refine gS ?_); refine Es_s (T := Tryz.tab) rfl rfl rfl rfl ?_) | (((with_reducible refine gS ?_); apply Es_xg); rfl; rfl; refine LStep_range (T := Tryz.tab) rfl rfl rfl rfl rfl rfl rfl; rfl) | (with_reducible refine Es_nil ?_) | (with_reducible refine then_n ?_))
  refine AW_keep [6, 2, 1000, 1003] rfl (fun G1 hG1 => ?_)
  have hst2 : ∀ w X G', (∀ id ∈ [6, 2, 1000, 1003], G'.m id = G1.m id) → ∀ s, Rep w X G' (lk (stabE [2, 1000, 1003] ((6, AV.fn 80 [AV.ptr 1000 0]) :: (4, AV.d (.sc (.slice none 0 0))) :: (2, AV.ptr 2 0) :: argEnv 0 [.d (.sc (.slice none 0 0)), .fn 80 iterE])) s) (rec.tmps.getD s undef) :=
    fun w X G' hg => hst w X G' (fun id hid => (hg id (List.mem_cons_of_mem _ hid)).trans (hG1 id hid))
  refine AW_forE (S := List (Sl × Load) × List (Sl × Load) × Option Value) (fun t => (t.2.1 ++ t.1).Perm l) (fun _ => [])
    (fun t => [(1003, some (.map 38 40 (emap slV loV l) (some (6, (emap slV loV t.1).map (·.1), t.2.2)))), (2, some (.cells [.own 2000 t.2.1.length])), (2000, some (.arr 40 7 (t.2.1.map fun p => p.2.enc)))]) (fun s => s.1.length) (l, [], none) (List.Perm.refl _) (by (repeat' (first | exact trivial | exact rfl | (refine ⟨Or.inl rfl, ?_⟩) | (refine ⟨Or.inr rfl, ?_⟩) | (refine ⟨Or.inr trivial, ?_⟩) | (refine ⟨rfl, ?_⟩) | (refine ⟨?_, ?_⟩)))) (by (repeat' (first | exact trivial | exact rfl | (refine ⟨Or.inl rfl, ?_⟩) | (refine ⟨Or.inr rfl, ?_⟩) | (refine ⟨Or.inr trivial, ?_⟩) | (refine ⟨rfl, ?_⟩) | (refine ⟨?_, ?_⟩)))) ?_
  intro ⟨mt, acc, cur⟩ hp
  dsimp only at hp ⊢
  have hla : acc.length ≤ 1048576 := by have := hp.length_eq; simp only [List.length_append] at this; omega
  have hn3 : ((emap slV loV mt).map (·.1)).Nodup := by
    have h1 : (emap slV loV (acc ++ mt)).Perm (emap slV loV l) := hp.map _
    have h2 := (h1.map (·.1)).nodup_iff.2 hkS
    rw [etodo_join, List.nodup_append] at h2
    exact h2.2.1
  repeat' (first | ((with_reducible refine gS ?_); refine Es_next 1003 rfl rfl rfl rfl rfl rfl hkS hn3 (fun h0 => ?_) (fun pre k post h0 => ?_)) | ((with_reducible refine gA ?_); (first | refine AW_seq ?_ | refine AW_region ?_ | refine AW_condT rfl ?_ | refine AW_condF rfl ?_ | refine AW_block ?_ | refine AW_skip ?_ | refine AW_exit ?_)) | ((with_reducible refine gS ?_); refine Es_s (T := Tryz.tab) rfl rfl rfl rfl ?_) | (refine Es_skip rfl ?_ rfl ?_; (first | rfl | (refine w_tf ?_; assumption) | (refine w_ft ?_; assumption))) | (with_reducible refine Es_nil ?_) | (with_reducible refine then_n ?_) | (with_reducible refine then_e ?_) | ((with_reducible refine block_e ?_ ?_); rfl))
  rotate_left
  · obtain ⟨a, p, b, rfl, rfl, rfl, rfl⟩ := etodo_split h0
    have hpm : p ∈ l := hp.mem_iff.1 (by simp)
    have hmem : (slV p.1, loV p.2) ∈ emap slV loV l := List.mem_map.2 ⟨p, hpm, rfl⟩
    repeat' (first | ((with_reducible refine gA ?_); refine AW_regionI ?_) | ((with_reducible refine gA ?_); refine AW_seq ?_) | ((with_reducible refine gS ?_); refine Es_s (T := Tryz.tab) rfl rfl rfl rfl ?_) | (((with_reducible refine gS ?_); apply Es_q); rfl; rfl; refine LStep_entry (kav := slA p.1) 1003 hmem rfl rfl rfl rfl hkS (fun w X G => sl_rep p.1 w X G)) | (refine Es_skip rfl ?_ rfl ?_; (first | rfl | (refine w_tf ?_; assumption) | (refine w_ft ?_; assumption))) | (((with_reducible refine gS ?_); apply Es_xs); rfl; rfl; refine LStep_allocN (T := Tryz.tab) rfl rfl rfl rfl rfl rfl; rfl) | (((with_reducible refine gS ?_); apply Es_xn); rfl; rfl; (refine LStep_storeN (T := Tryz.tab) rfl rfl rfl rfl rfl rfl rfl ?_ rfl; (refine Nat.le_of_ble_eq_true ?_; rfl)); rfl) | (with_reducible refine Es_nil ?_) | (with_reducible refine then_n ?_))
    refine Ei_q rfl rfl rfl (LStep_simp (T := Tryz.tab) rfl rfl) ?_
    refine Ei_q rfl rfl rfl (LStep_simp (T := Tryz.tab) rfl rfl) ?_
    refine Ei_yield [(1003, some (.map 38 40 (emap slV loV l) (some (6, (emap slV loV a).map (·.1) ++ (emap slV loV b).map (·.1), some (slV p.1))))), (2, some (.cells [.own 2000 (acc ++ [p]).length])), (2000, some (.arr 40 7 ((acc ++ [p]).map fun p => p.2.enc))), (3000, some (.raw lo (.loop rec))), (3001, some (.raw D (.deferred (some [])))), (1000, some (.cells [.mp 1003]))]
      (lid := 3000) hr1 hr2 hr3 hr4 hr5 hr6 (fun a w G r => hst2 _ _ G r.ids) rfl rfl rfl rfl rfl rfl (by decide) ?_ ?_
    · refine Ei_x rfl rfl rfl (LStep_allocN (T := Tryz.tab) rfl rfl rfl rfl rfl rfl) rfl ?_
      refine Ei_n rfl rfl rfl (LStep_storeN (T := Tryz.tab) rfl rfl rfl rfl rfl rfl rfl (Nat.le_refl _) rfl) rfl ?_
      refine Ei_nil ⟨rfl, rfl, fun bz => ?_⟩
      refine Ei_q rfl rfl rfl (LStep_simp (T := Tryz.tab) rfl rfl) ?_
      refine Ei_q rfl rfl rfl (LStep_simp (T := Tryz.tab) rfl rfl) ?_
      refine Ei_q rfl rfl rfl (LStep_lit (T := Tryz.tab) rfl rfl rfl rfl rfl rfl rfl rfl (Nat.le_of_ble_eq_true rfl)) ?_
      refine Ei_x rfl rfl rfl (LStep_append (T := Tryz.tab) rfl rfl rfl rfl rfl rfl rfl rfl rfl rfl (List.length_map _).symm (by simp only [List.length_map, List.length_cons, List.length_nil]; omega) (by unfold maxLen; simp only [List.length_map, List.length_cons, List.length_nil]; omega)) rfl ?_
      refine Ei_n rfl rfl rfl (LStep_storeN (T := Tryz.tab) rfl rfl rfl rfl rfl rfl rfl (Nat.le_refl _) rfl) rfl ?_
      refine Ei_nil ⟨rfl, rfl, ?_⟩
      refine ⟨rfl, ?_, ?_, rfl, rfl, rfl, trivial⟩
      · exact congrArg (fun n => some (AObj.cells [.own 2000 n])) (by simp)
      · exact congrArg (fun n => some (AObj.arr 40 7 n)) (by simp [Load.enc])
    · refine Ei_q rfl rfl rfl (LStep_simp (T := Tryz.tab) rfl rfl) ?_
      refine Ei_nil ?_
      repeat' (first | ((with_reducible refine gA ?_); (first | refine AW_condF rfl ?_ | refine AW_skip ?_)) | (with_reducible refine then_n ?_) | (with_reducible refine block_n ?_))
      refine ⟨(a ++ b, acc ++ [p], some (slV p.1)), perm_mid hp, by simp, by (repeat' (first | exact trivial | exact rfl | (refine ⟨Or.inl rfl, ?_⟩) | (refine ⟨Or.inr rfl, ?_⟩) | (refine ⟨Or.inr trivial, ?_⟩) | (refine ⟨rfl, ?_⟩) | (refine ⟨?_, ?_⟩))), by (repeat' (first | exact trivial | exact rfl | (refine ⟨Or.inl rfl, ?_⟩) | (refine ⟨Or.inr rfl, ?_⟩) | (refine ⟨Or.inr trivial, ?_⟩) | (refine ⟨rfl, ?_⟩) | (refine ⟨?_, ?_⟩))), ?_, by (repeat' (first | exact trivial | exact rfl | (refine ⟨Or.inl rfl, ?_⟩) | (refine ⟨Or.inr rfl, ?_⟩) | (refine ⟨Or.inr trivial, ?_⟩) | (refine ⟨rfl, ?_⟩) | (refine ⟨?_, ?_⟩)))⟩
      dsimp only; rw [etodo_join]; (repeat' (first | exact trivial | exact rfl | (refine ⟨Or.inl rfl, ?_⟩) | (refine ⟨Or.inr rfl, ?_⟩) | (refine ⟨Or.inr trivial, ?_⟩) | (refine ⟨rfl, ?_⟩) | (refine ⟨?_, ?_⟩)))
  have hm0 := etodo_nil h0
  subst hm0
  rw [List.append_nil] at hp
  refine ⟨.inr rfl, rfl, rfl, fun ex => RWm_noIt (m := 1003) rfl (tail_ret (did := 3001) ?_)⟩
  refine Et_q rfl rfl (LStep_simp (T := Tryz.tab) rfl rfl) ?_
  refine Et_q rfl rfl (LStep_simp (T := Tryz.tab) rfl rfl) ?_
  refine Et_nil ⟨rfl, mvals acc, hp.map _, congrArg (AV.own 2000) (by simp [mvals]), ?_, rfl, rfl, trivial⟩
  exact congrArg (fun n => some (AObj.arr 40 7 n)) (by simp [mvals])
theorem collect_ac (l : List (Sl × Load)) (hk : (akeys l).Nodup) (hl : l.length ≤ 1048576) : AC Tryz.prog 78 [.fn 80 iterE] (itH l) [1000, 1003]
    (fun r h' => ∃ v : List Load, v.Perm (mvals l) ∧ r = .own 2000 v.length ∧ SubH (outH l v) h') := by
  refine AC_enter Tryz.func78 rfl Tryz.ntmps78 (rv := [.tmp 2]) rfl rfl (by simp) (fun w X G => ?_)
  repeat' (first | ((with_reducible refine gS ?_); refine Es_callEx (ι := List Load) (I := fun v => v.Perm (mvals l)) (hr := outH l) (rv := fun v => .own 2000 v.length) [] [] [(2000, 2000)] (appendSeq_ac l hk hl) rfl rfl rfl rfl ⟨rfl, rfl, trivial⟩ rfl (fun v _ => rfl) (fun v _ => ⟨trivial, trivial, trivial⟩) rfl (fun v hv => ?_)) | ((with_reducible refine gA ?_); (first | refine AW_seq ?_ | refine AW_region ?_ | refine AW_ret ?_)) | ((with_reducible refine gS ?_); refine Es_s (T := Tryz.tab) rfl rfl rfl rfl ?_) | (with_reducible refine Es_nil ?_) | (with_reducible refine then_n ?_) | ((with_reducible refine gR ?_); first | refine ret1 rfl ?_ | refine ret2 rfl rfl ?_ | refine ret0 ?_ | refine end1 rfl ?_ | refine end0 ?_))
  exact ⟨v, hv, rfl, rfl, rfl, rfl, trivial⟩
theorem values_ac (l : List (Sl × Load)) : AC Tryz.prog 44 [.mp 1003] [(1003, some (.map 38 40 (emap slV loV l) none))] [1003]
    (fun r h' => r = .fn 80 [.ptr 1 0] ∧ SubH [(1, some (.cells [.mp 1003])), (1003, some (.map 38 40 (emap slV loV l) none))] h') := by
  refine AC_enter Tryz.func44 rfl Tryz.ntmps44 (rv := [.tmp 2]) rfl rfl (by simp) (fun w X G => ?_)
  repeat' (first | ((with_reducible refine gA ?_); (first | refine AW_seq ?_ | refine AW_region ?_ | refine AW_ret ?_)) | ((with_reducible refine gS ?_); refine Es_s (T := Tryz.tab) rfl rfl rfl rfl ?_) | (refine Es_skip rfl ?_ rfl ?_; (first | rfl | (refine w_tf ?_; assumption) | (refine w_ft ?_; assumption))) | (((with_reducible refine gS ?_); apply Es_xs); rfl; rfl; refine LStep_boxN rfl rfl rfl rfl rfl rfl; rfl) | (with_reducible refine Es_nil ?_) | (with_reducible refine then_n ?_) | ((with_reducible refine gR ?_); first | refine ret1 rfl ?_ | refine ret2 rfl rfl ?_ | refine ret0 ?_ | refine end1 rfl ?_ | refine end0 ?_))
  exact ⟨rfl, rfl, rfl, trivial⟩
/-! ### Loads -/
set_option maxRecDepth 10000 in
theorem isNaNInt_ac (a : Int) : AC Tryz.prog 73 [.d (.sc (.int .i64 a))] [] [] (fun r _ => r = .d (.sc (.bool false))) := by
  refine AC_enter Tryz.func73 rfl Tryz.ntmps73 (rv := [.tmp 2]) rfl rfl (by simp) (fun w X G => ?_)
  have h : (!eqb a a) = false := by rw [not_f]; exact eqb_t.2 rfl
  repeat' (first | ((with_reducible refine gA ?_); (first | refine AW_seq ?_ | refine AW_region ?_ | refine AW_ret ?_)) | ((with_reducible refine gS ?_); refine Es_s (T := Tryz.tab) rfl rfl rfl rfl ?_) | (with_reducible refine Es_nil ?_) | (with_reducible refine then_n ?_) | ((with_reducible refine gR ?_); first | refine ret1 rfl ?_ | refine ret2 rfl rfl ?_ | refine ret0 ?_ | refine end1 rfl ?_ | refine end0 ?_))
  rw [h]
def cmpI (a b : Int) : Int := if a < b then -1 else if b < a then 1 else 0
set_option maxRecDepth 10000 in
theorem compareI_ac (a b : Int) : AC Tryz.prog 38 [.d (.sc (.int .i64 a)), .d (.sc (.int .i64 b))] [] [] (fun r _ => r = .d (.sc (.int .i64 (cmpI a b)))) := by
  refine AC_enter Tryz.func38 rfl Tryz.ntmps38 (rv := [.tmp 4]) rfl rfl (by simp) (fun w X G => ?_)
  repeat' (first | ((with_reducible refine gA ?_); (first | refine AW_seq ?_ | refine AW_region ?_ | refine AW_condF rfl ?_ | (refine AW_cond rfl (fun hc => ?_) (fun hc => ?_) <;> try (exfalso; simp only [cmpL] at hc; omega)) | refine AW_ret ?_ | refine AW_skip ?_)) | ((with_reducible refine gS ?_); refine Es_s (T := Tryz.tab) rfl rfl rfl rfl ?_) | (((with_reducible refine gS ?_); apply Es_q); rfl; rfl; refine LStep_call (isNaNInt_ac _) rfl rfl rfl rfl) | (with_reducible refine Es_nil ?_) | (with_reducible refine then_n ?_) | (with_reducible refine then_r ?_) | ((with_reducible refine gR ?_); first | refine ret1 rfl ?_ | refine ret2 rfl rfl ?_ | refine ret0 ?_ | refine end1 rfl ?_ | refine end0 ?_))
  all_goals simp only [cmps] at *
  all_goals first
    | (unfold cmpI; rw [if_pos (by omega)]; done)
    | (unfold cmpI; rw [if_neg (by omega), if_pos (by omega)]; done)
    | (unfold cmpI; rw [if_neg (by omega), if_neg (by omega)]; done)
    | trace_state
set_option maxRecDepth 10000 in
theorem or3_ac (a b c : Int) : AC Tryz.prog 37 [.d (.sl 1 [[.sc (.int .i64 a)], [.sc (.int .i64 b)], [.sc (.int .i64 c)]])] [] [] (fun r _ => r = .d (.sc (.int .i64 (if a ≠ 0 then a else if b ≠ 0 then b else c)))) := by
  refine AC_enter Tryz.func37 rfl Tryz.ntmps37 (rv := [.tmp 2]) rfl rfl (by simp) (fun w X G => ?_)
  repeat' (first | ((with_reducible refine gA ?_); (first | refine AW_seq ?_ | refine AW_region ?_ | refine AW_block ?_)) | ((with_reducible refine gS ?_); refine Es_s (T := Tryz.tab) rfl rfl rfl rfl ?_) | (((with_reducible refine gS ?_); apply Es_q); rfl; rfl; refine LStep_wrap (T := Tryz.tab) rfl rfl) | (with_reducible refine Es_nil ?_) | (with_reducible refine then_n ?_))
  refine AW_forE (S := Nat) (fun k => k ≤ 3 ∧ (0 < k → a = 0) ∧ (1 < k → b = 0) ∧ (2 < k → c = 0)) (fun k => [(8, .d (.sc (.int .i64 (k : Nat))))]) (fun _ => []) (fun k => 3 - k) 0 ⟨by omega, by omega, by omega, by omega⟩ (by (repeat' (first | exact trivial | exact rfl | (refine ⟨Or.inl rfl, ?_⟩) | (refine ⟨Or.inr rfl, ?_⟩) | (refine ⟨Or.inr trivial, ?_⟩) | (refine ⟨rfl, ?_⟩) | (refine ⟨?_, ?_⟩)))) (by (repeat' (first | exact trivial | exact rfl | (refine ⟨Or.inl rfl, ?_⟩) | (refine ⟨Or.inr rfl, ?_⟩) | (refine ⟨Or.inr trivial, ?_⟩) | (refine ⟨rfl, ?_⟩) | (refine ⟨?_, ?_⟩)))) ?_
  intro k ⟨hk, hf, hg, hh⟩
  match k, hk with
  | 0, _ =>
    repeat' (first | ((with_reducible refine gA ?_); (first | refine AW_seq ?_ | refine AW_region ?_ | (refine AW_cond rfl (fun hc => ?_) (fun hc => ?_) <;> try (exfalso; simp only [cmpL] at hc; omega)) | refine AW_block ?_ | refine AW_ret ?_ | refine AW_skip ?_)) | ((with_reducible refine gS ?_); refine Es_s (T := Tryz.tab) rfl rfl rfl rfl ?_) | (((with_reducible refine gS ?_); apply Es_q); rfl; rfl; (first | (refine LStep_add rfl rfl rfl rfl ?_; (refine IntWalk.i64_in _ ?_; first | omega | (simp only [cmps] at *; omega))) | (refine LStep_index (T := Tryz.tab) (c := ?_) rfl rfl rfl rfl rfl rfl ?_ ?_; rotate_left; omega; (first | assumption | rfl)))) | (with_reducible refine Es_nil ?_) | (with_reducible refine then_n ?_) | (with_reducible refine then_r ?_) | (with_reducible refine block_n ?_) | (with_reducible refine block_r ?_) | ((with_reducible refine gR ?_); first | refine ret1 rfl ?_ | refine ret2 rfl rfl ?_ | refine ret0 ?_ | refine end1 rfl ?_ | refine end0 ?_))
    all_goals simp only [cmps] at *
    all_goals first
      | (rw [if_pos (by omega)]; done)
      | (refine ⟨1, ?_, by omega, by (repeat' (first | exact trivial | exact rfl | (refine ⟨Or.inl rfl, ?_⟩) | (refine ⟨Or.inr rfl, ?_⟩) | (refine ⟨Or.inr trivial, ?_⟩) | (refine ⟨rfl, ?_⟩) | (refine ⟨?_, ?_⟩))), by (repeat' (first | exact trivial | exact rfl | (refine ⟨Or.inl rfl, ?_⟩) | (refine ⟨Or.inr rfl, ?_⟩) | (refine ⟨Or.inr trivial, ?_⟩) | (refine ⟨rfl, ?_⟩) | (refine ⟨?_, ?_⟩))), by (repeat' (first | exact trivial | exact rfl | (refine ⟨Or.inl rfl, ?_⟩) | (refine ⟨Or.inr rfl, ?_⟩) | (refine ⟨Or.inr trivial, ?_⟩) | (refine ⟨rfl, ?_⟩) | (refine ⟨?_, ?_⟩))), by (repeat' (first | exact trivial | exact rfl | (refine ⟨Or.inl rfl, ?_⟩) | (refine ⟨Or.inr rfl, ?_⟩) | (refine ⟨Or.inr trivial, ?_⟩) | (refine ⟨rfl, ?_⟩) | (refine ⟨?_, ?_⟩)))⟩; exact ⟨by omega, by omega, by omega, by omega⟩)
  | 1, _ =>
    repeat' (first | ((with_reducible refine gA ?_); (first | refine AW_seq ?_ | refine AW_region ?_ | (refine AW_cond rfl (fun hc => ?_) (fun hc => ?_) <;> try (exfalso; simp only [cmpL] at hc; omega)) | refine AW_block ?_ | refine AW_ret ?_ | refine AW_skip ?_)) | ((with_reducible refine gS ?_); refine Es_s (T := Tryz.tab) rfl rfl rfl rfl ?_) | (((with_reducible refine gS ?_); apply Es_q); rfl; rfl; (first | (refine LStep_add rfl rfl rfl rfl ?_; (refine IntWalk.i64_in _ ?_; first | omega | (simp only [cmps] at *; omega))) | (refine LStep_index (T := Tryz.tab) (c := ?_) rfl rfl rfl rfl rfl rfl ?_ ?_; rotate_left; omega; (first | assumption | rfl)))) | (with_reducible refine Es_nil ?_) | (with_reducible refine then_n ?_) | (with_reducible refine then_r ?_) | (with_reducible refine block_n ?_) | (with_reducible refine block_r ?_) | ((with_reducible refine gR ?_); first | refine ret1 rfl ?_ | refine ret2 rfl rfl ?_ | refine ret0 ?_ | refine end1 rfl ?_ | refine end0 ?_))
    all_goals simp only [cmps] at *
    all_goals first
      | (rw [if_neg (by omega), if_pos (by omega)]; done)
      | (refine ⟨2, ?_, by omega, by (repeat' (first | exact trivial | exact rfl | (refine ⟨Or.inl rfl, ?_⟩) | (refine ⟨Or.inr rfl, ?_⟩) | (refine ⟨Or.inr trivial, ?_⟩) | (refine ⟨rfl, ?_⟩) | (refine ⟨?_, ?_⟩))), by (repeat' (first | exact trivial | exact rfl | (refine ⟨Or.inl rfl, ?_⟩) | (refine ⟨Or.inr rfl, ?_⟩) | (refine ⟨Or.inr trivial, ?_⟩) | (refine ⟨rfl, ?_⟩) | (refine ⟨?_, ?_⟩))), by (repeat' (first | exact trivial | exact rfl | (refine ⟨Or.inl rfl, ?_⟩) | (refine ⟨Or.inr rfl, ?_⟩) | (refine ⟨Or.inr trivial, ?_⟩) | (refine ⟨rfl, ?_⟩) | (refine ⟨?_, ?_⟩))), by (repeat' (first | exact trivial | exact rfl | (refine ⟨Or.inl rfl, ?_⟩) | (refine ⟨Or.inr rfl, ?_⟩) | (refine ⟨Or.inr trivial, ?_⟩) | (refine ⟨rfl, ?_⟩) | (refine ⟨?_, ?_⟩)))⟩; exact ⟨by omega, by omega, by omega, by omega⟩)
  | 2, _ =>
    repeat' (first | ((with_reducible refine gA ?_); (first | refine AW_seq ?_ | refine AW_region ?_ | (refine AW_cond rfl (fun hc => ?_) (fun hc => ?_) <;> try (exfalso; simp only [cmpL] at hc; omega)) | refine AW_block ?_ | refine AW_ret ?_ | refine AW_skip ?_)) | ((with_reducible refine gS ?_); refine Es_s (T := Tryz.tab) rfl rfl rfl rfl ?_) | (((with_reducible refine gS ?_); apply Es_q); rfl; rfl; (first | (refine LStep_add rfl rfl rfl rfl ?_; (refine IntWalk.i64_in _ ?_; first | omega | (simp only [cmps] at *; omega))) | (refine LStep_index (T := Tryz.tab) (c := ?_) rfl rfl rfl rfl rfl rfl ?_ ?_; rotate_left; omega; (first | assumption | rfl)))) | (with_reducible refine Es_nil ?_) | (with_reducible refine then_n ?_) | (with_reducible refine then_r ?_) | (with_reducible refine block_n ?_) | (with_reducible refine block_r ?_) | ((with_reducible refine gR ?_); first | refine ret1 rfl ?_ | refine ret2 rfl rfl ?_ | refine ret0 ?_ | refine end1 rfl ?_ | refine end0 ?_))
    all_goals simp only [cmps] at *
    all_goals first
      | (rw [if_neg (by omega), if_neg (by omega)]; done)
      | (refine ⟨3, ?_, by omega, by (repeat' (first | exact trivial | exact rfl | (refine ⟨Or.inl rfl, ?_⟩) | (refine ⟨Or.inr rfl, ?_⟩) | (refine ⟨Or.inr trivial, ?_⟩) | (refine ⟨rfl, ?_⟩) | (refine ⟨?_, ?_⟩))), by (repeat' (first | exact trivial | exact rfl | (refine ⟨Or.inl rfl, ?_⟩) | (refine ⟨Or.inr rfl, ?_⟩) | (refine ⟨Or.inr trivial, ?_⟩) | (refine ⟨rfl, ?_⟩) | (refine ⟨?_, ?_⟩))), by (repeat' (first | exact trivial | exact rfl | (refine ⟨Or.inl rfl, ?_⟩) | (refine ⟨Or.inr rfl, ?_⟩) | (refine ⟨Or.inr trivial, ?_⟩) | (refine ⟨rfl, ?_⟩) | (refine ⟨?_, ?_⟩))), by (repeat' (first | exact trivial | exact rfl | (refine ⟨Or.inl rfl, ?_⟩) | (refine ⟨Or.inr rfl, ?_⟩) | (refine ⟨Or.inr trivial, ?_⟩) | (refine ⟨rfl, ?_⟩) | (refine ⟨?_, ?_⟩)))⟩; exact ⟨by omega, by omega, by omega, by omega⟩)
  | 3, _ =>
    repeat' (first | ((with_reducible refine gA ?_); (first | refine AW_seq ?_ | refine AW_region ?_ | (refine AW_cond rfl (fun hc => ?_) (fun hc => ?_) <;> try (exfalso; simp only [cmpL] at hc; omega)) | refine AW_ret ?_ | refine AW_exit ?_)) | ((with_reducible refine gS ?_); refine Es_s (T := Tryz.tab) rfl rfl rfl rfl ?_) | (with_reducible refine Es_nil ?_) | (with_reducible refine then_n ?_) | (with_reducible refine then_e ?_) | ((with_reducible refine block_e ?_ ?_); rfl) | ((with_reducible refine gR ?_); first | refine ret1 rfl ?_ | refine ret2 rfl rfl ?_ | refine ret0 ?_ | refine end1 rfl ?_ | refine end0 ?_))
    all_goals simp only [cmps] at *
    rw [if_neg (by omega), if_neg (by omega), hh (by omega)]
def slD : List D → Sl
  | .sc (.int _ b) :: .sc (.int _ r) :: .sc (.int _ t) :: _ => ⟨b, r, t⟩
  | _ => ⟨0, 0, 0⟩
def cmpSl (x y : Sl) : Int := if cmpI x.b y.b ≠ 0 then cmpI x.b y.b else if cmpI x.r y.r ≠ 0 then cmpI x.r y.r else cmpI x.t y.t
def cmpLd (x y : List D) : Int := cmpSl (slD x) (slD y)
theorem cmpI_lt {a b : Int} : cmpI a b < 0 ↔ a < b := by unfold cmpI; split <;> (try split) <;> omega
theorem cmpI_eq {a b : Int} : cmpI a b = 0 ↔ a = b := by unfold cmpI; split <;> (try split) <;> omega
theorem ltOf_cmpLd (x y : List D) : ltOf cmpLd x y = dless (slD x) (slD y) := by
  unfold ltOf cmpLd
  rw [Bool.eq_iff_iff, dless_t, decide_eq_true_eq]
  unfold cmpSl
  by_cases h1 : (slD x).b = (slD y).b
  · rw [if_neg (by rw [ne_eq, Decidable.not_not, cmpI_eq]; exact h1)]
    by_cases h2 : (slD x).r = (slD y).r
    · rw [if_neg (by rw [ne_eq, Decidable.not_not, cmpI_eq]; exact h2), cmpI_lt]
      omega
    · rw [if_pos (by rw [ne_eq, cmpI_eq]; exact h2), cmpI_lt]
      omega
  · rw [if_pos (by rw [ne_eq, cmpI_eq]; exact h1), cmpI_lt]
    omega
theorem dless_ntrans {a b c : Sl} (h : dless a b = false) (k : dless b c = false) : dless a c = false := by
  rw [dless_f] at *
  omega
theorem swoLd : Sort.SWO (ltOf cmpLd) :=
  ⟨fun x => by rw [ltOf_cmpLd]; exact dless_irr _, fun x y z h1 h2 => by rw [ltOf_cmpLd] at *; exact dless_trans h1 h2, fun x y z h1 h2 => by rw [ltOf_cmpLd] at *; exact dless_ntrans h1 h2⟩
set_option maxRecDepth 10000 in
theorem loads1_ac (p q : Load) : AC Tryz.prog 45 [.agg p.cs2, .agg q.cs2] [] [] (fun r _ => r = .d (.sc (.int .i64 (cmpLd p.enc q.enc)))) := by
  have e : cmpLd p.enc q.enc = cmpSl p.sl q.sl := rfl
  rw [e]
  unfold cmpSl
  have c1 := compareI_ac p.sl.b q.sl.b
  have c2 := compareI_ac p.sl.r q.sl.r
  have c3 := compareI_ac p.sl.t q.sl.t
  have c4 := or3_ac (cmpI p.sl.b q.sl.b) (cmpI p.sl.r q.sl.r) (cmpI p.sl.t q.sl.t)
  refine AC_enter Tryz.func45 rfl Tryz.ntmps45 (rv := [.tmp 4]) rfl rfl (by simp) (fun w X G => ?_)
  repeat' (first | ((with_reducible refine gA ?_); (first | refine AW_seq ?_ | refine AW_region ?_ | refine AW_regionD Tryz.mixed ?_ | refine AW_ret ?_)) | (first | ((with_reducible refine gS ?_); refine Es_s (T := Tryz.tab) rfl rfl rfl rfl ?_) | ((with_reducible refine gD ?_); refine Ed_s (T := Tryz.tab) rfl rfl rfl rfl ?_)) | ((first | ((with_reducible refine gS ?_); apply Es_q) | ((with_reducible refine gD ?_); apply Ed_q)); rfl; rfl; (first | refine LStep_call (c1) rfl rfl rfl rfl | refine LStep_call (c2) rfl rfl rfl rfl | refine LStep_call (c3) rfl rfl rfl rfl | refine LStep_call (c4) rfl rfl rfl rfl)) | ((first | ((with_reducible refine gS ?_); apply Es_q) | ((with_reducible refine gD ?_); apply Ed_q)); rfl; rfl; (refine LStep_lit (T := Tryz.tab) rfl rfl rfl rfl rfl rfl rfl rfl ?_; (refine Nat.le_of_ble_eq_true ?_; rfl))) | (refine Es_skip rfl ?_ rfl ?_; (first | rfl | (refine w_tf ?_; assumption) | (refine w_ft ?_; assumption))) | (((with_reducible refine gS ?_); apply Es_xs); rfl; rfl; refine LStep_boxN rfl rfl rfl rfl rfl rfl; rfl) | (with_reducible refine Es_nil ?_) | ((with_reducible refine Ed_nil ?_ ?_); kernel_rfl) | (with_reducible refine then_n ?_) | ((with_reducible refine gR ?_); first | refine ret1 rfl ?_ | refine ret2 rfl rfl ?_ | refine ret0 ?_ | refine end1 rfl ?_ | refine end0 ?_))
  rfl
/-- the loads in their order -/
def lsort (v : List Load) : List Load := v.foldl (fun l x => insD x l) []
theorem foldl_insD : ∀ (v D : List Load), DSort D → ((D ++ v).map (·.sl)).Nodup → DSort (v.foldl (fun l x => insD x l) D) ∧ (v.foldl (fun l x => insD x l) D).Perm (D ++ v)
  | [], D, h, _ => by rw [List.append_nil]; exact ⟨h, List.Perm.refl _⟩
  | x :: v, D, h, hn => by
    have hp : (insD x D ++ v).Perm (D ++ x :: v) := ((insD_perm x D).append_right v).trans List.perm_middle.symm
    have hd : DSort (insD x D) := insD_sort h (fun y hy e => by
      rw [List.map_append, List.map_cons, List.nodup_append] at hn
      exact hn.2.2 y.sl (List.mem_map.2 ⟨y, hy, rfl⟩) x.sl List.mem_cons_self e)
    obtain ⟨h1, h2⟩ := foldl_insD v (insD x D) hd ((hp.map (·.sl)).nodup_iff.2 hn)
    exact ⟨h1, h2.trans hp⟩
theorem lsort_doc {L : List Load} (hn : (L.map (·.sl)).Nodup) : DocB L (lsort L) := by
  obtain ⟨h1, h2⟩ := foldl_insD L [] List.Pairwise.nil hn
  exact ⟨h2, h1⟩
theorem dsort_inj : ∀ {D : List Load}, DSort D → ∀ {x y : Load}, x ∈ D → y ∈ D → x.sl = y.sl → x = y
  | [], _, x, _, hx, _, _ => by cases hx
  | a :: D, h, x, y, hx, hy, e => by
    unfold DSort at h
    rw [List.pairwise_cons] at h
    rcases List.mem_cons.1 hx with e1 | h1 <;> rcases List.mem_cons.1 hy with e2 | h2
    · rw [e1, e2]
    · have := h.1 y h2; rw [← e1, e, dless_irr] at this; cases this
    · have := h.1 x h1; rw [← e2, e, dless_irr] at this; cases this
    · exact dsort_inj h.2 h1 h2 e
set_option maxRecDepth 10000 in
theorem sortedFunc_ac (D : List Load) (l : List (Sl × Load)) (hk : (akeys l).Nodup) (hl : l.length ≤ 1048576) (hD : DocB (mvals l) D) : AC Tryz.prog 43 [.fn 80 iterE, .fn 45 []] (itH l) [1000, 1003]
    (fun r h' => r = .own 7 D.length ∧ SubH ((7, some (.arr 40 7 (D.map Load.enc))) :: itH l) h') := by
  have hvl : ∀ v : List Load, v.Perm (mvals l) → v.length ≤ 1048576 := fun v hv => by rw [hv.length_eq]; simpa [mvals] using hl
  have cs : ∀ v : List Load, v.Perm (mvals l) → AC Tryz.prog 79 _ _ _ _ := fun v hv => sortFunc_ac Tryz.sortLoads 7 Tryz.isAgg40 Tryz.sizeOf40 (callable_of Tryz.func79 rfl rfl) (callable_of Tryz.func45 rfl rfl)
    40 v.length (v.map Load.enc) (D.map Load.enc) cmpLd swoLd (List.length_map _).symm (by rw [List.length_map]; have := hvl v hv; omega)
    (fun x hx y hy => by
      obtain ⟨p, _, rfl⟩ := List.mem_map.1 hx
      obtain ⟨q, _, rfl⟩ := List.mem_map.1 hy
      exact loads1_ac p q)
    ((hD.perm.trans hv.symm).map _) (List.pairwise_map.2 (hD.sort.imp (fun h => by rw [ltOf_cmpLd]; exact dless_asymm h)))
    (fun x hx y hy h1 h2 => by
      obtain ⟨p, hp1, rfl⟩ := List.mem_map.1 hx
      obtain ⟨q, hq1, rfl⟩ := List.mem_map.1 hy
      rw [ltOf_cmpLd] at h1 h2
      rw [dsort_inj hD.sort (hD.perm.mem_iff.2 (hv.mem_iff.1 hp1)) (hD.perm.mem_iff.2 (hv.mem_iff.1 hq1)) (dless_tri h1 h2)])
  refine AC_enter Tryz.func43 rfl Tryz.ntmps43 (rv := [.tmp 4]) rfl rfl (by simp) (fun w X G => ?_)
  repeat' (first | ((with_reducible refine gS ?_); refine Es_callExN (ι := List Load) (I := fun v => v.Perm (mvals l)) (hr := outH l) (rv := fun v => .own 2000 v.length) (fun v => (7, some (.arr 40 7 (v.map Load.enc))) :: itH l) (fun v => .own 7 v.length) [] [] [(2000, 7)] (collect_ac l hk hl) rfl rfl rfl rfl ⟨rfl, rfl, trivial⟩ rfl (fun v _ => rfl) (fun v _ => ⟨trivial, trivial, trivial⟩) rfl (fun v => rfl) (fun v => rfl) (fun v hv => ?_)) | ((with_reducible refine gA ?_); (first | refine AW_seq ?_ | refine AW_region ?_)) | ((with_reducible refine gS ?_); refine Es_s (T := Tryz.tab) rfl rfl rfl rfl ?_) | (refine Es_skip rfl ?_ rfl ?_; (first | rfl | (refine w_tf ?_; assumption) | (refine w_ft ?_; assumption))) | (with_reducible refine Es_nil ?_) | (with_reducible refine then_n ?_))
  have cv := cs v hv
  have hlen : v.length = D.length := by rw [hD.perm.length_eq, hv.length_eq]
  have hll : (v.map Load.enc).length = (D.map Load.enc).length := by rw [List.length_map, List.length_map, hlen]
  unfold itH
  repeat' (first | ((with_reducible refine gA ?_); (first | refine AW_seq ?_ | refine AW_region ?_ | refine AW_ret ?_)) | ((with_reducible refine gS ?_); refine Es_s (T := Tryz.tab) rfl rfl rfl rfl ?_) | (((with_reducible refine gS ?_); apply Es_xg); rfl; rfl; refine LStep_callHN [(1000, 7)] [] cv rfl rfl ⟨rfl, trivial⟩ rfl ⟨hll, trivial⟩ rfl rfl; rfl) | (with_reducible refine Es_nil ?_) | (with_reducible refine then_n ?_) | ((with_reducible refine gR ?_); first | refine ret1 rfl ?_ | refine ret2 rfl rfl ?_ | refine ret0 ?_ | refine end1 rfl ?_ | refine end0 ?_))
  exact ⟨congrArg (AV.own 7) hlen, rfl, rfl, rfl, trivial⟩
theorem mvals_slM (L : List Load) : mvals (slM L) = L := by unfold mvals slM; rw [List.map_map]; exact List.map_id' L
set_option maxRecDepth 10000 in
theorem loads_ac (S : Ship) (L D : List Load) (hD : DocB L D) (hn : (L.map (·.sl)).Nodup) (hl : L.length ≤ 1048576) : AC Tryz.prog 17 [.ptr 1000 0] (hB S L) [1000, 1001, 1002]
    (fun r h' => r = .d (.sl 7 (D.map Load.enc)) ∧ SubH (hB S L) h') := by
  have cv := values_ac (slM L)
  have cs := sortedFunc_ac D (slM L) (by rw [slM_keys]; exact hn) (by simpa [slM] using hl) (by rw [mvals_slM]; exact hD)
  refine AC_enter Tryz.func17 rfl Tryz.ntmps17 (rv := [.tmp 2]) rfl rfl (by simp) (fun w X G => ?_)
  repeat' (first | ((with_reducible refine gRc ?_); refine AW_freeze [2] (id := 8) ⟨rfl, trivial⟩ rfl (List.length_map _) ?_) | ((with_reducible refine gA ?_); (first | refine AW_seq ?_ | refine AW_region ?_ | refine AW_ret ?_)) | ((with_reducible refine gS ?_); refine Es_s (T := Tryz.tab) rfl rfl rfl rfl ?_) | (((with_reducible refine gS ?_); apply Es_xg); rfl; rfl; (first | refine LStep_callHN [(1003, 1001)] [(1, 7)] cv rfl rfl ⟨rfl, trivial⟩ rfl ⟨trivial, trivial⟩ rfl rfl | refine LStep_callHN [(1000, 7), (1003, 1001)] [(7, 8)] cs rfl rfl ⟨rfl, rfl, trivial⟩ rfl ⟨trivial, trivial, trivial⟩ rfl rfl); rfl) | (with_reducible refine Es_nil ?_) | (with_reducible refine then_n ?_) | ((with_reducible refine gR ?_); first | refine ret1 rfl ?_ | refine ret2 rfl rfl ?_ | refine ret0 ?_ | refine end1 rfl ?_ | refine end0 ?_))
  all_goals first
    | exact ⟨rfl, by (repeat' (first | exact trivial | exact rfl | (refine ⟨Or.inl rfl, ?_⟩) | (refine ⟨Or.inr rfl, ?_⟩) | (refine ⟨Or.inr trivial, ?_⟩) | (refine ⟨rfl, ?_⟩) | (refine ⟨?_, ?_⟩)))⟩
    | trace_state
end Go.Proofs.YtodgjgkoaahhmaaGreatDoor
