import Derived.Test.YtldfncafkdmoiaaFC
import Derived.Test.YtldfncafkdmoiaaFE
import Derived.Test.YtldfncafkdmoiaaSx
import Derived.Test.YtldfncafkdmoiaaSy
import Derived.Test.YtldfncafkdmoiaaSp
import Derived.Test.YtldfncafkdmoiaaH1
namespace Go.Proofs.Ytldfncafkdmoiaa
open Go.SL
/-! ### the keys of a map, sorted -/
theorem perm_mid {α : Type} {acc a b m : List α} {p : α} (hp : (acc ++ (a ++ p :: b)).Perm m) : ((acc ++ [p]) ++ (a ++ b)).Perm m := by
  refine List.Perm.trans ?_ hp
  rw [List.append_assoc]
  exact List.Perm.append_left acc (by simpa using (List.perm_middle (a := p) (l₁ := a) (l₂ := b)).symm)
def cV (c : Cl) : AV := .agg c.cs
theorem sV_keyB (k : ByteArray) : keyB .string (sV k) = true := rfl
theorem s_keys {α : Type} {cv : α → AV} (l : List (ByteArray × α)) : ∀ p ∈ emap sV cv l, keyB .string p.1 = true := emap_keys (q := fun v => keyB .string v = true) sV_keyB
def iterE : List AV := [.ptr 1000 0]
def itK (l : List (ByteArray × Cl)) : Hp := [(1000, some (.cells [.mp 1003])), (1003, some (.map 9 23 (emap sV cV l) none))]
def outK (l : List (ByteArray × Cl)) (v : List ByteArray) : Hp := (2000, some (.arr 9 1 (v.map sN))) :: itK l
set_option maxRecDepth 10000 in
theorem appendSeq_ac (l : List (ByteArray × Cl)) (hk : (akeys l).Nodup) (hl : l.length ≤ 1048576) : AC Try.prog 83 [.d (.sc (.slice none 0 0)), .fn 58 iterE] (itK l) [1000, 1003]
    (fun r h' => ∃ v : List ByteArray, v.Perm (akeys l) ∧ r = .own 2000 v.length ∧ SubH (outK l v) h') := by
  refine AC_enterM Try.func83 rfl Try.ntmps83 (t := 4) rfl rfl (by simp) (fun w X G => ?_)
  refine RW_seqA ?_
  repeat' (first | ((with_reducible refine gA ?_); refine AW_region ?_) | ((with_reducible refine gS ?_); refine Es_s (T := Try.tab) rfl rfl rfl rfl ?_) | (refine Es_skip rfl ?_ rfl ?_; (first | rfl | (refine w_tf ?_; assumption) | (refine w_ft ?_; assumption))) | (((with_reducible refine gS ?_); apply Es_xs); rfl; rfl; refine LStep_boxN rfl rfl rfl rfl rfl rfl; rfl) | (with_reducible refine Es_nil ?_))
  refine ⟨rfl, RW_openCell 9 1 2 0 2000 rfl rfl rfl rfl rfl ?_⟩
  refine RW_seqR (RW_seqA ?_)
  repeat' (first | ((with_reducible refine gA ?_); refine AW_region ?_) | ((with_reducible refine gS ?_); refine Es_s (T := Try.tab) rfl rfl rfl rfl ?_) | (with_reducible refine Es_nil ?_))
  refine ⟨rfl, RW_rangeB 3000 3001 [2, 1000, 1003] rfl Try.func58 rfl Try.ntmps58 rfl rfl (by simp) rfl rfl rfl rfl rfl rfl rfl rfl rfl rfl (fun lo D rec G0 hr1 hr2 hr3 hr4 hr5 hr6 hst => ?_)⟩
  have hr6 : rec.tmps.size = 13 := hr6
  have hkS := emap_nodup (cv := cV) sV_inj hk
  unfold itK iterE
  repeat' (first | ((with_reducible refine gA ?_); (first | refine AW_seq ?_ | refine AW_region ?_ | refine AW_block ?_)) | ((with_reducible refine gS ?_); refine Es_s (T := Try.tab) rfl rfl rfl rfl ?_) | (((with_reducible refine gS ?_); apply Es_xg); rfl; rfl; refine LStep_range (T := Try.tab) rfl rfl rfl rfl rfl rfl rfl; rfl) | (with_reducible refine Es_nil ?_) | (with_reducible refine then_n ?_))
  refine AW_keep [5, 2, 1000, 1003] rfl (fun G1 hG1 => ?_)
  have hst2 : ∀ w X G', (∀ id ∈ [5, 2, 1000, 1003], G'.m id = G1.m id) → ∀ s, Rep w X G' (lk (stabE [2, 1000, 1003] ((6, AV.fn 58 [AV.ptr 1000 0]) :: (4, AV.d (.sc (.slice none 0 0))) :: (2, AV.ptr 2 0) :: argEnv 0 [.d (.sc (.slice none 0 0)), .fn 58 iterE])) s) (rec.tmps.getD s undef) :=
    fun w X G' hg => hst w X G' (fun id hid => (hg id (List.mem_cons_of_mem _ hid)).trans (hG1 id hid))
  refine AW_forE (S := List (ByteArray × Cl) × List (ByteArray × Cl) × Option Value) (fun t => (t.2.1 ++ t.1).Perm l) (fun _ => [])
    (fun t => [(1003, some (.map 9 23 (emap sV cV l) (some (5, (emap sV cV t.1).map (·.1), t.2.2)))), (2, some (.cells [.own 2000 t.2.1.length])), (2000, some (.arr 9 1 (t.2.1.map fun p => sN p.1)))]) (fun s => s.1.length) (l, [], none) (List.Perm.refl _) (by (repeat' (first | exact trivial | exact rfl | (refine ⟨Or.inl rfl, ?_⟩) | (refine ⟨Or.inr rfl, ?_⟩) | (refine ⟨Or.inr trivial, ?_⟩) | (refine ⟨rfl, ?_⟩) | (refine ⟨?_, ?_⟩)))) (by (repeat' (first | exact trivial | exact rfl | (refine ⟨Or.inl rfl, ?_⟩) | (refine ⟨Or.inr rfl, ?_⟩) | (refine ⟨Or.inr trivial, ?_⟩) | (refine ⟨rfl, ?_⟩) | (refine ⟨?_, ?_⟩)))) ?_
  intro ⟨mt, acc, cur⟩ hp
  dsimp only at hp ⊢
  have hla : acc.length ≤ 1048576 := by have := hp.length_eq; simp only [List.length_append] at this; omega
  have hn3 : ((emap sV cV mt).map (·.1)).Nodup := by
    have h1 : (emap sV cV (acc ++ mt)).Perm (emap sV cV l) := hp.map _
    have h2 := (h1.map (·.1)).nodup_iff.2 hkS
    rw [etodo_join, List.nodup_append] at h2
    exact h2.2.1
  repeat' (first | ((with_reducible refine gS ?_); refine Es_next 1003 rfl rfl rfl rfl rfl rfl hkS hn3 (fun h0 => ?_) (fun pre k post h0 => ?_)) | ((with_reducible refine gA ?_); (first | refine AW_seq ?_ | refine AW_region ?_ | refine AW_condT rfl ?_ | refine AW_condF rfl ?_ | refine AW_block ?_ | refine AW_skip ?_ | refine AW_exit ?_)) | ((with_reducible refine gS ?_); refine Es_s (T := Try.tab) rfl rfl rfl rfl ?_) | (refine Es_skip rfl ?_ rfl ?_; (first | rfl | (refine w_tf ?_; assumption) | (refine w_ft ?_; assumption))) | (with_reducible refine Es_nil ?_) | (with_reducible refine then_n ?_) | (with_reducible refine then_e ?_) | ((with_reducible refine block_e ?_ ?_); rfl))
  rotate_left
  · obtain ⟨a, p, b, rfl, rfl, rfl, rfl⟩ := etodo_split h0
    have hpm : p ∈ l := hp.mem_iff.1 (by simp)
    have hmem : (sV p.1, cV p.2) ∈ emap sV cV l := List.mem_map.2 ⟨p, hpm, rfl⟩
    repeat' (first | ((with_reducible refine gA ?_); refine AW_regionI ?_) | ((with_reducible refine gA ?_); refine AW_seq ?_) | ((with_reducible refine gS ?_); refine Es_s (T := Try.tab) rfl rfl rfl rfl ?_) | (((with_reducible refine gS ?_); apply Es_q); rfl; rfl; refine LStep_entry (kav := .d (.sc (.string p.1))) 1003 hmem rfl rfl rfl rfl hkS (fun _ _ _ => .d _ _ (.sc _ rfl))) | (with_reducible refine Es_nil ?_) | (with_reducible refine then_n ?_))
    refine Ei_q rfl rfl rfl (LStep_simp (T := Try.tab) rfl rfl) ?_
    refine Ei_q rfl rfl rfl (LStep_simp (T := Try.tab) rfl rfl) ?_
    refine Ei_yield [(1003, some (.map 9 23 (emap sV cV l) (some (5, (emap sV cV a).map (·.1) ++ (emap sV cV b).map (·.1), some (sV p.1))))), (2, some (.cells [.own 2000 (acc ++ [p]).length])), (2000, some (.arr 9 1 ((acc ++ [p]).map fun p => sN p.1))), (3000, some (.raw lo (.loop rec))), (3001, some (.raw D (.deferred (some [])))), (1000, some (.cells [.mp 1003]))]
      (lid := 3000) hr1 hr2 hr3 hr4 hr5 hr6 (fun a w G r => hst2 _ _ G r.ids) rfl rfl rfl rfl rfl rfl (by decide) ?_ ?_
    · refine Ei_q rfl rfl rfl (LStep_simp (T := Try.tab) rfl rfl) ?_
      refine Ei_nil ⟨rfl, rfl, fun bz => ?_⟩
      refine Ei_q rfl rfl rfl (LStep_simp (T := Try.tab) rfl rfl) ?_
      refine Ei_q rfl rfl rfl (LStep_simp (T := Try.tab) rfl rfl) ?_
      refine Ei_q rfl rfl rfl (LStep_lit (T := Try.tab) rfl rfl rfl rfl rfl rfl rfl rfl (Nat.le_of_ble_eq_true rfl)) ?_
      refine Ei_x rfl rfl rfl (LStep_append (T := Try.tab) rfl rfl rfl rfl rfl rfl rfl rfl rfl rfl (List.length_map _).symm (by simp only [List.length_map, List.length_cons, List.length_nil]; omega) (by unfold maxLen; simp only [List.length_map, List.length_cons, List.length_nil]; omega)) rfl ?_
      refine Ei_n rfl rfl rfl (LStep_storeN (T := Try.tab) rfl rfl rfl rfl rfl rfl rfl (Nat.le_refl _) rfl) rfl ?_
      refine Ei_nil ⟨rfl, rfl, ?_⟩
      refine ⟨rfl, ?_, ?_, rfl, rfl, rfl, trivial⟩
      · exact congrArg (fun n => some (AObj.cells [.own 2000 n])) (by simp)
      · exact congrArg (fun n => some (AObj.arr 9 1 n)) (by simp [sN])
    · refine Ei_q rfl rfl rfl (LStep_simp (T := Try.tab) rfl rfl) ?_
      refine Ei_nil ?_
      repeat' (first | ((with_reducible refine gA ?_); (first | refine AW_condF rfl ?_ | refine AW_skip ?_)) | (with_reducible refine then_n ?_) | (with_reducible refine block_n ?_))
      refine ⟨(a ++ b, acc ++ [p], some (sV p.1)), perm_mid hp, by simp, by (repeat' (first | exact trivial | exact rfl | (refine ⟨Or.inl rfl, ?_⟩) | (refine ⟨Or.inr rfl, ?_⟩) | (refine ⟨Or.inr trivial, ?_⟩) | (refine ⟨rfl, ?_⟩) | (refine ⟨?_, ?_⟩))), by (repeat' (first | exact trivial | exact rfl | (refine ⟨Or.inl rfl, ?_⟩) | (refine ⟨Or.inr rfl, ?_⟩) | (refine ⟨Or.inr trivial, ?_⟩) | (refine ⟨rfl, ?_⟩) | (refine ⟨?_, ?_⟩))), ?_, by (repeat' (first | exact trivial | exact rfl | (refine ⟨Or.inl rfl, ?_⟩) | (refine ⟨Or.inr rfl, ?_⟩) | (refine ⟨Or.inr trivial, ?_⟩) | (refine ⟨rfl, ?_⟩) | (refine ⟨?_, ?_⟩)))⟩
      dsimp only; rw [etodo_join]; (repeat' (first | exact trivial | exact rfl | (refine ⟨Or.inl rfl, ?_⟩) | (refine ⟨Or.inr rfl, ?_⟩) | (refine ⟨Or.inr trivial, ?_⟩) | (refine ⟨rfl, ?_⟩) | (refine ⟨?_, ?_⟩)))
  have hm0 := etodo_nil h0
  subst hm0
  rw [List.append_nil] at hp
  refine ⟨.inr rfl, rfl, rfl, fun ex => RWm_noIt (m := 1003) rfl (tail_ret (did := 3001) ?_)⟩
  refine Et_q rfl rfl (LStep_simp (T := Try.tab) rfl rfl) ?_
  refine Et_q rfl rfl (LStep_simp (T := Try.tab) rfl rfl) ?_
  refine Et_nil ⟨rfl, akeys acc, hp.map _, congrArg (AV.own 2000) (by simp [akeys]), ?_, rfl, rfl, trivial⟩
  exact congrArg (fun n => some (AObj.arr 9 1 n)) (by simp [akeys])
set_option maxRecDepth 10000 in
theorem collect_ac (l : List (ByteArray × Cl)) (hk : (akeys l).Nodup) (hl : l.length ≤ 1048576) : AC Try.prog 56 [.fn 58 iterE] (itK l) [1000, 1003]
    (fun r h' => ∃ v : List ByteArray, v.Perm (akeys l) ∧ r = .own 2000 v.length ∧ SubH (outK l v) h') := by
  refine AC_enter Try.func56 rfl Try.ntmps56 (rv := [.tmp 2]) rfl rfl (by simp) (fun w X G => ?_)
  repeat' (first | ((with_reducible refine gS ?_); refine Es_callEx (ι := List ByteArray) (I := fun v => v.Perm (akeys l)) (hr := outK l) (rv := fun v => .own 2000 v.length) [] [] [(2000, 2000)] (appendSeq_ac l hk hl) rfl rfl rfl rfl ⟨rfl, rfl, trivial⟩ rfl (fun v _ => rfl) (fun v _ => ⟨trivial, trivial, trivial⟩) rfl (fun v hv => ?_)) | ((with_reducible refine gA ?_); (first | refine AW_seq ?_ | refine AW_region ?_ | refine AW_ret ?_)) | ((with_reducible refine gS ?_); refine Es_s (T := Try.tab) rfl rfl rfl rfl ?_) | (with_reducible refine Es_nil ?_) | (with_reducible refine then_n ?_) | ((with_reducible refine gR ?_); first | refine ret1 rfl ?_ | refine ret2 rfl rfl ?_ | refine ret0 ?_ | refine end1 rfl ?_ | refine end0 ?_))
  exact ⟨v, hv, rfl, rfl, rfl, rfl, trivial⟩
theorem sortS_eq {v w : List ByteArray} (h : v.Perm w) : sortS v = sortS w :=
  ((sortS_perm v).trans (h.trans (sortS_perm w).symm)).eq_of_pairwise (le := fun x y => lts y x = false) (fun a b _ _ h1 h2 => lts_tri h2 h1) (sortS_sorted v) (sortS_sorted w)
set_option maxRecDepth 10000 in
theorem sorted_ac (l : List (ByteArray × Cl)) (hk : (akeys l).Nodup) (hl : l.length ≤ 1048576) : AC Try.prog 33 [.fn 58 iterE] (itK l) [1000, 1003]
    (fun r h' => r = .own 5 ((sortS (akeys l)).map sN).length ∧ SubH ((5, some (.arr 9 1 ((sortS (akeys l)).map sN))) :: itK l) h') := by
  have cs : ∀ v : List ByteArray, v.Perm (akeys l) → AC Try.prog 57 _ _ _ _ := fun v hv => sortStrs_ac Try.sortStrs (callable_of Try.func57 rfl rfl) 9 v.length v rfl (by rw [hv.length_eq]; simp only [akeys, List.length_map]; omega)
  refine AC_enter Try.func33 rfl Try.ntmps33 (rv := [.tmp 2]) rfl rfl (by simp) (fun w X G => ?_)
  repeat' (first | ((with_reducible refine gS ?_); refine Es_callExN (ι := List ByteArray) (I := fun v => v.Perm (akeys l)) (hr := outK l) (rv := fun v => .own 2000 v.length) (fun v => (5, some (.arr 9 1 (v.map sN))) :: itK l) (fun v => .own 5 v.length) [] [] [(2000, 5)] (collect_ac l hk hl) rfl rfl rfl rfl ⟨rfl, rfl, trivial⟩ rfl (fun v _ => rfl) (fun v _ => ⟨trivial, trivial, trivial⟩) rfl (fun v => rfl) (fun v => rfl) (fun v hv => ?_)) | ((with_reducible refine gA ?_); (first | refine AW_seq ?_ | refine AW_region ?_)) | ((with_reducible refine gS ?_); refine Es_s (T := Try.tab) rfl rfl rfl rfl ?_) | (refine Es_skip rfl ?_ rfl ?_; (first | rfl | (refine w_tf ?_; assumption) | (refine w_ft ?_; assumption))) | (with_reducible refine Es_nil ?_) | (with_reducible refine then_n ?_))
  have cv := cs v hv
  rw [sortS_eq hv] at cv
  have hlen : (v.map sN).length = ((sortS (akeys l)).map sN).length := by rw [List.length_map, List.length_map, (sortS_perm _).length_eq, hv.length_eq]
  have hl1 : v.length = ((sortS (akeys l)).map sN).length := by rw [← hlen, List.length_map]
  unfold itK
  repeat' (first | ((with_reducible refine gA ?_); (first | refine AW_seq ?_ | refine AW_region ?_ | refine AW_ret ?_)) | ((with_reducible refine gS ?_); refine Es_s (T := Try.tab) rfl rfl rfl rfl ?_) | (((with_reducible refine gS ?_); apply Es_xg); rfl; rfl; refine LStep_callHN [(1000, 5)] [] cv rfl rfl ⟨rfl, trivial⟩ rfl ⟨hlen, trivial⟩ rfl rfl; rfl) | (with_reducible refine Es_nil ?_) | (with_reducible refine then_n ?_) | ((with_reducible refine gR ?_); first | refine ret1 rfl ?_ | refine ret2 rfl rfl ?_ | refine ret0 ?_ | refine end1 rfl ?_ | refine end0 ?_))
  exact ⟨congrArg (AV.own 5) hl1, rfl, rfl, rfl, trivial⟩
set_option maxRecDepth 10000 in
theorem keys_ac (l : List (ByteArray × Cl)) : AC Try.prog 34 [.mp 1003] [(1003, some (.map 9 23 (emap sV cV l) none))] [1003]
    (fun r h' => r = .fn 58 [.ptr 1 0] ∧ SubH [(1, some (.cells [.mp 1003])), (1003, some (.map 9 23 (emap sV cV l) none))] h') := by
  refine AC_enter Try.func34 rfl Try.ntmps34 (rv := [.tmp 2]) rfl rfl (by simp) (fun w X G => ?_)
  repeat' (first | ((with_reducible refine gA ?_); (first | refine AW_seq ?_ | refine AW_region ?_ | refine AW_ret ?_)) | ((with_reducible refine gS ?_); refine Es_s (T := Try.tab) rfl rfl rfl rfl ?_) | (refine Es_skip rfl ?_ rfl ?_; (first | rfl | (refine w_tf ?_; assumption) | (refine w_ft ?_; assumption))) | (((with_reducible refine gS ?_); apply Es_xs); rfl; rfl; refine LStep_boxN rfl rfl rfl rfl rfl rfl; rfl) | (with_reducible refine Es_nil ?_) | (with_reducible refine then_n ?_) | ((with_reducible refine gR ?_); first | refine ret1 rfl ?_ | refine ret2 rfl rfl ?_ | refine ret0 ?_ | refine end1 rfl ?_ | refine end0 ?_))
  exact ⟨rfl, rfl, rfl, trivial⟩
end Go.Proofs.Ytldfncafkdmoiaa
