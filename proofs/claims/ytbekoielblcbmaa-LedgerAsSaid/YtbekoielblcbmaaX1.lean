import Derived.Test.YtbekoielblcbmaaV3
import Derived.Test.YtbekoielblcbmaaSy
namespace Go.Proofs.Ytbekoielblcbmaa
open Go.SL
/-! ### the values of a map, in some order -/
def iterE : List AV := [.ptr 1000 0]
def Hld.enc (h : Hld) : List D := [.sc (.string h.id), .sc (.string h.acct), .sc (.string h.cur), .sc (.int .i64 h.amt)]
def mvals {κ α : Type} (l : List (κ × α)) : List α := l.map (·.2)
def itH (l : List (ByteArray × Hld)) : Hp := [(1000, some (.cells [.mp 1003])), (1003, some (.map 9 67 (emap sV hV l) none))]
def outH (l : List (ByteArray × Hld)) (v : List Hld) : Hp := (2000, some (.arr 67 4 (v.map Hld.enc))) :: itH l
set_option maxRecDepth 10000 in
theorem appendSeq_ac (l : List (ByteArray × Hld)) (hk : (akeys l).Nodup) (hl : l.length ≤ 1048576) : AC Try.prog 83 [.d (.sc (.slice none 0 0)), .fn 72 iterE] (itH l) [1000, 1003]
    (fun r h' => ∃ v : List Hld, v.Perm (mvals l) ∧ r = .own 2000 v.length ∧ SubH (outH l v) h') := by
  refine AC_enterM Try.func83 rfl Try.ntmps83 (t := 4) rfl rfl (by simp) (fun w X G => ?_)
  refine RW_seqA ?_
  repeat' (first | ((with_reducible refine gA ?_); refine AW_region ?_) | ((with_reducible refine gS ?_); refine Es_s (T := Try.tab) rfl rfl rfl rfl ?_) | (refine Es_skip rfl ?_ rfl ?_; (first | rfl | (refine w_tf ?_; assumption) | (refine w_ft ?_; assumption))) | (((with_reducible refine gS ?_); apply Es_xs); rfl; rfl; refine LStep_boxN rfl rfl rfl rfl rfl rfl; rfl) | (with_reducible refine Es_nil ?_))
  refine ⟨rfl, RW_openCell 67 4 2 0 2000 rfl rfl rfl rfl rfl ?_⟩
  refine RW_seqR (RW_seqA ?_)
  repeat' (first | ((with_reducible refine gA ?_); refine AW_region ?_) | ((with_reducible refine gS ?_); refine Es_s (T := Try.tab) rfl rfl rfl rfl ?_) | (with_reducible refine Es_nil ?_))
  refine ⟨rfl, RW_rangeB 3000 3001 [2, 1000, 1003] rfl Try.func72 rfl Try.ntmps72 rfl rfl (by simp) rfl rfl rfl rfl rfl rfl rfl rfl rfl rfl (fun lo D rec G0 hr1 hr2 hr3 hr4 hr5 hr6 hst => ?_)⟩
  have hr6 : rec.tmps.size = 13 := hr6
  have hkS := emap_nodup (cv := hV) sV_inj hk
  unfold itH iterE
  repeat' (first | ((with_reducible refine gA ?_); (first | refine AW_seq ?_ | refine AW_region ?_ | refine AW_block ?_)) | ((with_reducible refine gS ?_); refine Es_s (T := Try.tab) rfl rfl rfl rfl ?_) | (((with_reducible refine gS ?_); apply Es_xg); rfl; rfl; refine LStep_range (T := Try.tab) rfl rfl rfl rfl rfl rfl rfl; rfl) | (with_reducible refine Es_nil ?_) | (with_reducible refine then_n ?_))
  refine AW_keep [6, 2, 1000, 1003] rfl (fun G1 hG1 => ?_)
  have hst2 : ∀ w X G', (∀ id ∈ [6, 2, 1000, 1003], G'.m id = G1.m id) → ∀ s, Rep w X G' (lk (stabE [2, 1000, 1003] ((6, AV.fn 72 [AV.ptr 1000 0]) :: (4, AV.d (.sc (.slice none 0 0))) :: (2, AV.ptr 2 0) :: argEnv 0 [.d (.sc (.slice none 0 0)), .fn 72 iterE])) s) (rec.tmps.getD s undef) :=
    fun w X G' hg => hst w X G' (fun id hid => (hg id (List.mem_cons_of_mem _ hid)).trans (hG1 id hid))
  refine AW_forE (S := List (ByteArray × Hld) × List (ByteArray × Hld) × Option Value) (fun t => (t.2.1 ++ t.1).Perm l) (fun _ => [])
    (fun t => [(1003, some (.map 9 67 (emap sV hV l) (some (6, (emap sV hV t.1).map (·.1), t.2.2)))), (2, some (.cells [.own 2000 t.2.1.length])), (2000, some (.arr 67 4 (t.2.1.map fun p => p.2.enc)))]) (fun s => s.1.length) (l, [], none) (List.Perm.refl _) (by (repeat' (first | exact trivial | exact rfl | (refine ⟨Or.inl rfl, ?_⟩) | (refine ⟨Or.inr rfl, ?_⟩) | (refine ⟨Or.inr trivial, ?_⟩) | (refine ⟨rfl, ?_⟩) | (refine ⟨?_, ?_⟩)))) (by (repeat' (first | exact trivial | exact rfl | (refine ⟨Or.inl rfl, ?_⟩) | (refine ⟨Or.inr rfl, ?_⟩) | (refine ⟨Or.inr trivial, ?_⟩) | (refine ⟨rfl, ?_⟩) | (refine ⟨?_, ?_⟩)))) ?_
  intro ⟨mt, acc, cur⟩ hp
  dsimp only at hp ⊢
  have hla : acc.length ≤ 1048576 := by have := hp.length_eq; simp only [List.length_append] at this; omega
  have hn3 : ((emap sV hV mt).map (·.1)).Nodup := by
    have h1 : (emap sV hV (acc ++ mt)).Perm (emap sV hV l) := hp.map _
    have h2 := (h1.map (·.1)).nodup_iff.2 hkS
    rw [etodo_join, List.nodup_append] at h2
    exact h2.2.1
  repeat' (first | ((with_reducible refine gS ?_); refine Es_next 1003 rfl rfl rfl rfl rfl rfl hkS hn3 (fun h0 => ?_) (fun pre k post h0 => ?_)) | ((with_reducible refine gA ?_); (first | refine AW_seq ?_ | refine AW_region ?_ | refine AW_condT rfl ?_ | refine AW_condF rfl ?_ | refine AW_block ?_ | refine AW_skip ?_ | refine AW_exit ?_)) | ((with_reducible refine gS ?_); refine Es_s (T := Try.tab) rfl rfl rfl rfl ?_) | (refine Es_skip rfl ?_ rfl ?_; (first | rfl | (refine w_tf ?_; assumption) | (refine w_ft ?_; assumption))) | (with_reducible refine Es_nil ?_) | (with_reducible refine then_n ?_) | (with_reducible refine then_e ?_) | ((with_reducible refine block_e ?_ ?_); rfl))
  rotate_left
  · obtain ⟨a, p, b, rfl, rfl, rfl, rfl⟩ := etodo_split h0
    have hpm : p ∈ l := hp.mem_iff.1 (by simp)
    have hmem : (sV p.1, hV p.2) ∈ emap sV hV l := List.mem_map.2 ⟨p, hpm, rfl⟩
    repeat' (first | ((with_reducible refine gA ?_); refine AW_regionI ?_) | ((with_reducible refine gA ?_); refine AW_seq ?_) | ((with_reducible refine gS ?_); refine Es_s (T := Try.tab) rfl rfl rfl rfl ?_) | (((with_reducible refine gS ?_); apply Es_q); rfl; rfl; refine LStep_entry (kav := .d (.sc (.string p.1))) 1003 hmem rfl rfl rfl rfl hkS (fun _ _ _ => .d _ _ (.sc _ rfl))) | (refine Es_skip rfl ?_ rfl ?_; (first | rfl | (refine w_tf ?_; assumption) | (refine w_ft ?_; assumption))) | (((with_reducible refine gS ?_); apply Es_xs); rfl; rfl; refine LStep_allocN (T := Try.tab) rfl rfl rfl rfl rfl rfl; rfl) | (((with_reducible refine gS ?_); apply Es_xn); rfl; rfl; (refine LStep_storeN (T := Try.tab) rfl rfl rfl rfl rfl rfl rfl ?_ rfl; (refine Nat.le_of_ble_eq_true ?_; rfl)); rfl) | (with_reducible refine Es_nil ?_) | (with_reducible refine then_n ?_))
    refine Ei_q rfl rfl rfl (LStep_simp (T := Try.tab) rfl rfl) ?_
    refine Ei_q rfl rfl rfl (LStep_simp (T := Try.tab) rfl rfl) ?_
    refine Ei_yield [(1003, some (.map 9 67 (emap sV hV l) (some (6, (emap sV hV a).map (·.1) ++ (emap sV hV b).map (·.1), some (sV p.1))))), (2, some (.cells [.own 2000 (acc ++ [p]).length])), (2000, some (.arr 67 4 ((acc ++ [p]).map fun p => p.2.enc))), (3000, some (.raw lo (.loop rec))), (3001, some (.raw D (.deferred (some [])))), (1000, some (.cells [.mp 1003]))]
      (lid := 3000) hr1 hr2 hr3 hr4 hr5 hr6 (fun a w G r => hst2 _ _ G r.ids) rfl rfl rfl rfl rfl rfl (by decide) ?_ ?_
    · refine Ei_x rfl rfl rfl (LStep_allocN (T := Try.tab) rfl rfl rfl rfl rfl rfl) rfl ?_
      refine Ei_n rfl rfl rfl (LStep_storeN (T := Try.tab) rfl rfl rfl rfl rfl rfl rfl (Nat.le_refl _) rfl) rfl ?_
      refine Ei_nil ⟨rfl, rfl, fun bz => ?_⟩
      refine Ei_q rfl rfl rfl (LStep_simp (T := Try.tab) rfl rfl) ?_
      refine Ei_q rfl rfl rfl (LStep_simp (T := Try.tab) rfl rfl) ?_
      refine Ei_q rfl rfl rfl (LStep_lit (T := Try.tab) rfl rfl rfl rfl rfl rfl rfl rfl (Nat.le_of_ble_eq_true rfl)) ?_
      refine Ei_x rfl rfl rfl (LStep_append (T := Try.tab) rfl rfl rfl rfl rfl rfl rfl rfl rfl rfl (List.length_map _).symm (by simp only [List.length_map, List.length_cons, List.length_nil]; omega) (by unfold maxLen; simp only [List.length_map, List.length_cons, List.length_nil]; omega)) rfl ?_
      refine Ei_n rfl rfl rfl (LStep_storeN (T := Try.tab) rfl rfl rfl rfl rfl rfl rfl (Nat.le_refl _) rfl) rfl ?_
      refine Ei_nil ⟨rfl, rfl, ?_⟩
      refine ⟨rfl, ?_, ?_, rfl, rfl, rfl, trivial⟩
      · exact congrArg (fun n => some (AObj.cells [.own 2000 n])) (by simp)
      · exact congrArg (fun n => some (AObj.arr 67 4 n)) (by simp [Hld.enc])
    · refine Ei_q rfl rfl rfl (LStep_simp (T := Try.tab) rfl rfl) ?_
      refine Ei_nil ?_
      repeat' (first | ((with_reducible refine gA ?_); (first | refine AW_condF rfl ?_ | refine AW_skip ?_)) | (with_reducible refine then_n ?_) | (with_reducible refine block_n ?_))
      refine ⟨(a ++ b, acc ++ [p], some (sV p.1)), perm_mid hp, by simp, by (repeat' (first | exact trivial | exact rfl | (refine ⟨Or.inl rfl, ?_⟩) | (refine ⟨Or.inr rfl, ?_⟩) | (refine ⟨Or.inr trivial, ?_⟩) | (refine ⟨rfl, ?_⟩) | (refine ⟨?_, ?_⟩))), by (repeat' (first | exact trivial | exact rfl | (refine ⟨Or.inl rfl, ?_⟩) | (refine ⟨Or.inr rfl, ?_⟩) | (refine ⟨Or.inr trivial, ?_⟩) | (refine ⟨rfl, ?_⟩) | (refine ⟨?_, ?_⟩))), ?_, by (repeat' (first | exact trivial | exact rfl | (refine ⟨Or.inl rfl, ?_⟩) | (refine ⟨Or.inr rfl, ?_⟩) | (refine ⟨Or.inr trivial, ?_⟩) | (refine ⟨rfl, ?_⟩) | (refine ⟨?_, ?_⟩)))⟩
      dsimp only; rw [etodo_join]; (repeat' (first | exact trivial | exact rfl | (refine ⟨Or.inl rfl, ?_⟩) | (refine ⟨Or.inr rfl, ?_⟩) | (refine ⟨Or.inr trivial, ?_⟩) | (refine ⟨rfl, ?_⟩) | (refine ⟨?_, ?_⟩)))
  have hm0 := etodo_nil h0
  subst hm0
  rw [List.append_nil] at hp
  refine ⟨.inr rfl, rfl, rfl, fun ex => RWm_noIt (m := 1003) rfl (tail_ret (did := 3001) ?_)⟩
  refine Et_q rfl rfl (LStep_simp (T := Try.tab) rfl rfl) ?_
  refine Et_q rfl rfl (LStep_simp (T := Try.tab) rfl rfl) ?_
  refine Et_nil ⟨rfl, mvals acc, hp.map _, congrArg (AV.own 2000) (by simp [mvals]), ?_, rfl, rfl, trivial⟩
  exact congrArg (fun n => some (AObj.arr 67 4 n)) (by simp [mvals])
end Go.Proofs.Ytbekoielblcbmaa
