/- A ledger's total of a currency. -/
import Derived.Test.YtofdnkgieigncaaV4
import Derived.Test.YtofdnkgieigncaaSm
import Derived.Test.YtofdnkgieigncaaSx
import Derived.Test.YtofdnkgieigncaaSq
namespace Go.Proofs.Ytofdnkgieigncaa
open Go.SL
/-! ### Total -/
def curSum (c : ByteArray) (A : List (K2 × Acc)) : Int := (A.map fun p => if p.1.2 = c then p.2.bal else 0).sum
theorem curSum_snoc (c : ByteArray) (A : List (K2 × Acc)) (p : K2 × Acc) : curSum c (A ++ [p]) = curSum c A + (if p.1.2 = c then p.2.bal else 0) := by simp [curSum]
theorem curSum_perm {c : ByteArray} {A B : List (K2 × Acc)} (h : A.Perm B) : curSum c A = curSum c B := by
  unfold curSum
  induction h with
  | nil => rfl
  | cons x _ ih => simp [ih]
  | swap x y l => simp only [List.map_cons, List.sum_cons]; omega
  | trans _ _ h1 h2 => rw [h1, h2]
theorem wrp_add_l (x y : Int) : wrp .i64 (wrp .i64 x + y) = wrp .i64 (x + y) := by
  unfold wrp IntKind.wrap
  simp [IntKind.bits, IntKind.signed]
  omega
def totS (s : Led) (c : ByteArray) : Int := wrp .i64 (curSum c s.A)
set_option maxRecDepth 10000 in
set_option maxHeartbeats 2000000 in
theorem total_ac (s : Led) (c : ByteArray) (hk : (akeys s.A).Nodup) : AC Try.prog 13 [.ptr 1000 0, .d (.sc (.string c))] (hL s) [1000, 1001, 1002, 1003]
    (fun r h' => r = .d (.sc (.int .i64 (totS s c))) ∧ SubH (hL s) h') := by
  have hkA := emap_nodup (cv := aV) k2V_inj hk
  refine AC_enter Try.func13 rfl Try.ntmps13 (rv := [.tmp 4]) rfl rfl (by simp) (fun w X G => ?_)
  repeat' (first | ((with_reducible refine gA ?_); (first | refine AW_seq ?_ | refine AW_region ?_ | refine AW_block ?_)) | ((with_reducible refine gS ?_); refine Es_s (T := Try.tab) rfl rfl rfl rfl ?_) | (((with_reducible refine gS ?_); apply Es_xg); rfl; rfl; refine LStep_range (T := Try.tab) rfl rfl rfl rfl rfl rfl rfl; rfl) | (with_reducible refine Es_nil ?_) | (with_reducible refine then_n ?_))
  refine AW_forE (S := List (K2 × Acc) × List (K2 × Acc) × Option Value) (fun t => (t.2.1 ++ t.1).Perm s.A) (fun t => [(5, .d (.sc (.int .i64 (wrp .i64 (curSum c t.2.1)))))])
    (fun t => [(1001, some (.map 70 72 (emap k2V aV s.A) (some (12, (emap k2V aV t.1).map (·.1), t.2.2))))]) (fun s => s.1.length) (s.A, [], none) (List.Perm.refl _) (by dsimp only; rw [show wrp .i64 (curSum c []) = 0 from wrp_fit (by simp [curSum])]; (repeat' (first | exact trivial | exact rfl | (refine ⟨Or.inl rfl, ?_⟩) | (refine ⟨Or.inr rfl, ?_⟩) | (refine ⟨Or.inr trivial, ?_⟩) | (refine ⟨rfl, ?_⟩) | (refine ⟨?_, ?_⟩)))) (by (repeat' (first | exact trivial | exact rfl | (refine ⟨Or.inl rfl, ?_⟩) | (refine ⟨Or.inr rfl, ?_⟩) | (refine ⟨Or.inr trivial, ?_⟩) | (refine ⟨rfl, ?_⟩) | (refine ⟨?_, ?_⟩)))) ?_
  intro ⟨mt, acc, cur⟩ hp
  dsimp only at hp ⊢
  have hn3 : ((emap k2V aV mt).map (·.1)).Nodup := by
    have h1 : (emap k2V aV (acc ++ mt)).Perm (emap k2V aV s.A) := hp.map _
    have h2 := (h1.map (·.1)).nodup_iff.2 hkA
    rw [etodo_join, List.nodup_append] at h2
    exact h2.2.1
  repeat' (first | ((with_reducible refine gS ?_); refine Es_next 1001 rfl rfl rfl rfl rfl rfl hkA hn3 (fun h0 => ?_) (fun pre k post h0 => ?_)) | ((with_reducible refine gRc ?_); refine AW_noIt 1001 rfl ?_) | ((with_reducible refine gA ?_); (first | refine AW_seq ?_ | refine AW_region ?_ | refine AW_condT rfl ?_ | refine AW_condF rfl ?_ | refine AW_block ?_ | refine AW_ret ?_ | refine AW_skip ?_ | refine AW_exit ?_)) | ((with_reducible refine gS ?_); refine Es_s (T := Try.tab) rfl rfl rfl rfl ?_) | (refine Es_skip rfl ?_ rfl ?_; (first | rfl | (refine w_tf ?_; assumption) | (refine w_ft ?_; assumption))) | (with_reducible refine Es_nil ?_) | (with_reducible refine then_n ?_) | (with_reducible refine then_e ?_) | ((with_reducible refine block_e ?_ ?_); rfl) | ((with_reducible refine gR ?_); first | refine ret1 rfl ?_ | refine ret2 rfl rfl ?_ | refine ret0 ?_ | refine end1 rfl ?_ | refine end0 ?_))
  rotate_left
  · obtain ⟨a, p, b, rfl, rfl, rfl, rfl⟩ := etodo_split h0
    have hpm : p ∈ s.A := hp.mem_iff.1 (by simp)
    have hmem : (k2V p.1, aV p.2) ∈ emap k2V aV s.A := List.mem_map.2 ⟨p, hpm, rfl⟩
    repeat' (first | ((with_reducible refine gA ?_); (first | refine AW_seq ?_ | refine AW_region ?_ | (refine AW_cond rfl (fun hc => ?_) (fun hc => ?_) <;> try (exfalso; simp only [cmpL] at hc; omega)) | refine AW_skip ?_)) | ((with_reducible refine gS ?_); refine Es_s (T := Try.tab) rfl rfl rfl rfl ?_) | (((with_reducible refine gS ?_); apply Es_q); rfl; rfl; refine LStep_entry (kav := .agg [.d (.sc (.string p.1.1)), .d (.sc (.string p.1.2))]) 1001 hmem rfl rfl rfl rfl hkA (k2_rep p.1)) | (((with_reducible refine gS ?_); apply Es_q); rfl; rfl; refine LStep_wrap (T := Try.tab) rfl rfl) | (refine Es_skip rfl ?_ rfl ?_; (first | rfl | (refine w_tf ?_; assumption) | (refine w_ft ?_; assumption))) | (((with_reducible refine gS ?_); apply Es_xs); rfl; rfl; refine LStep_allocN (T := Try.tab) rfl rfl rfl rfl rfl rfl; rfl) | (((with_reducible refine gS ?_); apply Es_xn); rfl; rfl; (refine LStep_storeN (T := Try.tab) rfl rfl rfl rfl rfl rfl rfl ?_ rfl; (refine Nat.le_of_ble_eq_true ?_; rfl)); rfl) | (with_reducible refine Es_nil ?_) | (with_reducible refine then_n ?_) | (with_reducible refine block_n ?_))
    all_goals simp only [cmps] at *
    · refine ⟨(a ++ b, acc ++ [p], some (k2V p.1)), perm_mid hp, by simp, ?_, by (repeat' (first | exact trivial | exact rfl | (refine ⟨Or.inl rfl, ?_⟩) | (refine ⟨Or.inr rfl, ?_⟩) | (refine ⟨Or.inr trivial, ?_⟩) | (refine ⟨rfl, ?_⟩) | (refine ⟨?_, ?_⟩))), ?_, by (repeat' (first | exact trivial | exact rfl | (refine ⟨Or.inl rfl, ?_⟩) | (refine ⟨Or.inr rfl, ?_⟩) | (refine ⟨Or.inr trivial, ?_⟩) | (refine ⟨rfl, ?_⟩) | (refine ⟨?_, ?_⟩)))⟩
      · dsimp only; rw [curSum_snoc, if_pos (by assumption), ← wrp_add_l]; (repeat' (first | exact trivial | exact rfl | (refine ⟨Or.inl rfl, ?_⟩) | (refine ⟨Or.inr rfl, ?_⟩) | (refine ⟨Or.inr trivial, ?_⟩) | (refine ⟨rfl, ?_⟩) | (refine ⟨?_, ?_⟩)))
      · dsimp only; rw [etodo_join]; (repeat' (first | exact trivial | exact rfl | (refine ⟨Or.inl rfl, ?_⟩) | (refine ⟨Or.inr rfl, ?_⟩) | (refine ⟨Or.inr trivial, ?_⟩) | (refine ⟨rfl, ?_⟩) | (refine ⟨?_, ?_⟩)))
    · refine ⟨(a ++ b, acc ++ [p], some (k2V p.1)), perm_mid hp, by simp, ?_, by (repeat' (first | exact trivial | exact rfl | (refine ⟨Or.inl rfl, ?_⟩) | (refine ⟨Or.inr rfl, ?_⟩) | (refine ⟨Or.inr trivial, ?_⟩) | (refine ⟨rfl, ?_⟩) | (refine ⟨?_, ?_⟩))), ?_, by (repeat' (first | exact trivial | exact rfl | (refine ⟨Or.inl rfl, ?_⟩) | (refine ⟨Or.inr rfl, ?_⟩) | (refine ⟨Or.inr trivial, ?_⟩) | (refine ⟨rfl, ?_⟩) | (refine ⟨?_, ?_⟩)))⟩
      · dsimp only; rw [curSum_snoc, if_neg (by assumption), Int.add_zero]; (repeat' (first | exact trivial | exact rfl | (refine ⟨Or.inl rfl, ?_⟩) | (refine ⟨Or.inr rfl, ?_⟩) | (refine ⟨Or.inr trivial, ?_⟩) | (refine ⟨rfl, ?_⟩) | (refine ⟨?_, ?_⟩)))
      · dsimp only; rw [etodo_join]; (repeat' (first | exact trivial | exact rfl | (refine ⟨Or.inl rfl, ?_⟩) | (refine ⟨Or.inr rfl, ?_⟩) | (refine ⟨Or.inr trivial, ?_⟩) | (refine ⟨rfl, ?_⟩) | (refine ⟨?_, ?_⟩)))
  have hm0 := etodo_nil h0
  subst hm0
  rw [List.append_nil] at hp
  exact ⟨by rw [totS, curSum_perm hp], rfl, rfl, rfl, rfl, trivial⟩
end Go.Proofs.Ytofdnkgieigncaa
