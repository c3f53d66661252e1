import Derived.Test.YtbekoielblcbmaaX1
import Derived.Test.YtbekoielblcbmaaSq
import Derived.Test.YtbekoielblcbmaaSp
import Derived.Test.YtbekoielblcbmaaH1
namespace Go.Proofs.Ytbekoielblcbmaa
open Go.SL
/-! ### cmp.Compare at strings -/
theorem isNaNs_ac (a : ByteArray) : AC Try.prog 69 [.d (.sc (.string a))] [] [] (fun r _ => r = .d (.sc (.bool false))) := by
  refine AC_enter Try.func69 rfl Try.ntmps69 (rv := [.tmp 2]) rfl rfl (by simp) (fun w X G => ?_)
  repeat' (first | ((with_reducible refine gA ?_); (first | refine AW_seq ?_ | refine AW_region ?_ | refine AW_ret ?_)) | (((with_reducible refine gS ?_); apply Es_q); rfl; rfl; refine LStep_neqSF rfl rfl rfl rfl rfl) | ((with_reducible refine gS ?_); refine Es_s (T := Try.tab) rfl rfl rfl rfl ?_) | (with_reducible refine Es_nil ?_) | (with_reducible refine then_n ?_) | ((with_reducible refine gR ?_); first | refine ret1 rfl ?_ | refine ret2 rfl rfl ?_ | refine ret0 ?_ | refine end1 rfl ?_ | refine end0 ?_))
  rfl
set_option maxRecDepth 10000 in
theorem compareS_ac (a b : ByteArray) : AC Try.prog 50 [.d (.sc (.string a)), .d (.sc (.string b))] [] [] (fun r _ => r = .d (.sc (.int .i64 (cmpS a b)))) := by
  refine AC_enter Try.func50 rfl Try.ntmps50 (rv := [.tmp 4]) rfl rfl (by simp) (fun w X G => ?_)
  repeat' (first | ((with_reducible refine gA ?_); (first | refine AW_seq ?_ | refine AW_region ?_ | refine AW_condF rfl ?_ | (refine AW_cond rfl (fun hc => ?_) (fun hc => ?_) <;> try (exfalso; simp only [cmpL] at hc; omega)) | refine AW_ret ?_ | refine AW_skip ?_)) | ((with_reducible refine gS ?_); refine Es_s (T := Try.tab) rfl rfl rfl rfl ?_) | (((with_reducible refine gS ?_); apply Es_q); rfl; rfl; (first | refine LStep_call (isNaNs_ac _) rfl rfl rfl rfl | refine LStep_gtrS rfl rfl rfl rfl)) | (with_reducible refine Es_nil ?_) | (with_reducible refine then_n ?_) | (with_reducible refine then_r ?_) | ((with_reducible refine gR ?_); first | refine ret1 rfl ?_ | refine ret2 rfl rfl ?_ | refine ret0 ?_ | refine end1 rfl ?_ | refine end0 ?_))
  · have h : lts a b = true := by assumption
    rw [cmpS, if_pos h]
  · have h : lts a b = false := by assumption
    have h2 : lts b a = true := by assumption
    rw [cmpS, if_neg (by rw [h]; simp), if_pos h2]
  · have h : lts a b = false := by assumption
    have h2 : lts b a = false := by assumption
    rw [cmpS, if_neg (by rw [h]; simp), if_neg (by rw [h2]; simp)]
/-! ### Holds -/
def idD : List D → ByteArray
  | .sc (.string b) :: _ => b
  | _ => ⟨#[]⟩
def cmpId (x y : List D) : Int := cmpS (idD x) (idD y)
theorem ltOf_cmpId (x y : List D) : ltOf cmpId x y = lts (idD x) (idD y) := by
  unfold ltOf cmpId cmpS
  cases h : lts (idD x) (idD y)
  · rw [if_neg (by simp)]
    split <;> rfl
  · rfl
theorem swoId : Sort.SWO (ltOf cmpId) :=
  ⟨fun x => by rw [ltOf_cmpId]; exact lts_irrefl _, fun x y z h1 h2 => by rw [ltOf_cmpId] at *; exact lts_trans h1 h2, fun x y z h1 h2 => by rw [ltOf_cmpId] at *; exact lts_ntrans h1 h2⟩
set_option maxRecDepth 10000 in
theorem holds1_ac (p q : Hld) : AC Try.prog 57 [.agg p.cs, .agg q.cs] [] [] (fun r _ => r = .d (.sc (.int .i64 (cmpId p.enc q.enc)))) := by
  have e : cmpId p.enc q.enc = cmpS p.id q.id := rfl
  rw [e]
  refine AC_enter Try.func57 rfl Try.ntmps57 (rv := [.tmp 4]) rfl rfl (by simp) (fun w X G => ?_)
  repeat' (first | ((with_reducible refine gA ?_); (first | refine AW_seq ?_ | refine AW_region ?_ | refine AW_ret ?_)) | ((with_reducible refine gS ?_); refine Es_s (T := Try.tab) rfl rfl rfl rfl ?_) | (((with_reducible refine gS ?_); apply Es_q); rfl; rfl; refine LStep_call (compareS_ac _ _) rfl rfl rfl rfl) | (refine Es_skip rfl ?_ rfl ?_; (first | rfl | (refine w_tf ?_; assumption) | (refine w_ft ?_; assumption))) | (((with_reducible refine gS ?_); apply Es_xs); rfl; rfl; refine LStep_boxN rfl rfl rfl rfl rfl rfl; rfl) | (with_reducible refine Es_nil ?_) | (with_reducible refine then_n ?_) | ((with_reducible refine gR ?_); first | refine ret1 rfl ?_ | refine ret2 rfl rfl ?_ | refine ret0 ?_ | refine end1 rfl ?_ | refine end0 ?_))
  rfl
def hsort (v : List Hld) : List Hld := v.mergeSort fun x y => !lts y.id x.id
theorem collect_ac (l : List (ByteArray × Hld)) (hk : (akeys l).Nodup) (hl : l.length ≤ 1048576) : AC Try.prog 70 [.fn 72 iterE] (itH l) [1000, 1003]
    (fun r h' => ∃ v : List Hld, v.Perm (mvals l) ∧ r = .own 2000 v.length ∧ SubH (outH l v) h') := by
  refine AC_enter Try.func70 rfl Try.ntmps70 (rv := [.tmp 2]) rfl rfl (by simp) (fun w X G => ?_)
  repeat' (first | ((with_reducible refine gS ?_); refine Es_callEx (ι := List Hld) (I := fun v => v.Perm (mvals l)) (hr := outH l) (rv := fun v => .own 2000 v.length) [] [] [(2000, 2000)] (appendSeq_ac l hk hl) rfl rfl rfl rfl ⟨rfl, rfl, trivial⟩ rfl (fun v _ => rfl) (fun v _ => ⟨trivial, trivial, trivial⟩) rfl (fun v hv => ?_)) | ((with_reducible refine gA ?_); (first | refine AW_seq ?_ | refine AW_region ?_ | refine AW_ret ?_)) | ((with_reducible refine gS ?_); refine Es_s (T := Try.tab) rfl rfl rfl rfl ?_) | (with_reducible refine Es_nil ?_) | (with_reducible refine then_n ?_) | ((with_reducible refine gR ?_); first | refine ret1 rfl ?_ | refine ret2 rfl rfl ?_ | refine ret0 ?_ | refine end1 rfl ?_ | refine end0 ?_))
  exact ⟨v, hv, rfl, rfl, rfl, rfl, trivial⟩
theorem hsort_perm (v : List Hld) : (hsort v).Perm v := List.mergeSort_perm _ _
theorem hsort_sorted (v : List Hld) : (hsort v).Pairwise fun x y => lts y.id x.id = false := by
  have := List.pairwise_mergeSort (le := fun x y : Hld => !lts y.id x.id) (fun a b c h1 h2 => by simp only [Bool.not_eq_true'] at *; exact lts_ntrans h2 h1) (fun a b => by
    simp only [Bool.or_eq_true, Bool.not_eq_true']
    cases h : lts b.id a.id
    · exact .inl rfl
    · exact .inr (lts_asymm h)) v
  exact this.imp (fun h => by simpa using h)
def idInj (v : List Hld) : Prop := ∀ x ∈ v, ∀ y ∈ v, x.id = y.id → x = y
set_option maxRecDepth 10000 in
theorem sortedFunc_ac (l : List (ByteArray × Hld)) (hk : (akeys l).Nodup) (hl : l.length ≤ 1048576) (hi : idInj (mvals l)) : AC Try.prog 55 [.fn 72 iterE, .fn 57 []] (itH l) [1000, 1003]
    (fun r h' => r = .own 7 (hsort (mvals l)).length ∧ SubH ((7, some (.arr 67 4 ((hsort (mvals l)).map Hld.enc))) :: itH l) h') := by
  have hvl : ∀ v : List Hld, v.Perm (mvals l) → v.length ≤ 1048576 := fun v hv => by rw [hv.length_eq]; simpa [mvals] using hl
  have cs : ∀ v : List Hld, v.Perm (mvals l) → AC Try.prog 71 _ _ _ _ := fun v hv => sortFunc_ac Try.sortHolds 4 Try.isAgg67 Try.sizeOf67 (callable_of Try.func71 rfl rfl) (callable_of Try.func57 rfl rfl)
    67 v.length (v.map Hld.enc) ((hsort (mvals l)).map Hld.enc) cmpId swoId (List.length_map _).symm (by rw [List.length_map]; have := hvl v hv; omega)
    (fun x hx y hy => by
      obtain ⟨p, _, rfl⟩ := List.mem_map.1 hx
      obtain ⟨q, _, rfl⟩ := List.mem_map.1 hy
      exact holds1_ac p q)
    (((hsort_perm _).trans hv.symm).map _) (List.pairwise_map.2 ((hsort_sorted _).imp (fun h => by rw [ltOf_cmpId]; exact h)))
    (fun x hx y hy h1 h2 => by
      obtain ⟨p, hp1, rfl⟩ := List.mem_map.1 hx
      obtain ⟨q, hq1, rfl⟩ := List.mem_map.1 hy
      rw [ltOf_cmpId] at h1 h2
      rw [hi p (hv.mem_iff.1 hp1) q (hv.mem_iff.1 hq1) (lts_tri h1 h2)])
  refine AC_enter Try.func55 rfl Try.ntmps55 (rv := [.tmp 4]) rfl rfl (by simp) (fun w X G => ?_)
  repeat' (first | ((with_reducible refine gS ?_); refine Es_callExN (ι := List Hld) (I := fun v => v.Perm (mvals l)) (hr := outH l) (rv := fun v => .own 2000 v.length) (fun v => (7, some (.arr 67 4 (v.map Hld.enc))) :: itH l) (fun v => .own 7 v.length) [] [] [(2000, 7)] (collect_ac l hk hl) rfl rfl rfl rfl ⟨rfl, rfl, trivial⟩ rfl (fun v _ => rfl) (fun v _ => ⟨trivial, trivial, trivial⟩) rfl (fun v => rfl) (fun v => rfl) (fun v hv => ?_)) | ((with_reducible refine gA ?_); (first | refine AW_seq ?_ | refine AW_region ?_)) | ((with_reducible refine gS ?_); refine Es_s (T := Try.tab) rfl rfl rfl rfl ?_) | (refine Es_skip rfl ?_ rfl ?_; (first | rfl | (refine w_tf ?_; assumption) | (refine w_ft ?_; assumption))) | (with_reducible refine Es_nil ?_) | (with_reducible refine then_n ?_))
  have cv := cs v hv
  have hlen : v.length = (hsort (mvals l)).length := by rw [(hsort_perm _).length_eq, hv.length_eq]
  have hll : (v.map Hld.enc).length = ((hsort (mvals l)).map Hld.enc).length := by rw [List.length_map, List.length_map, hlen]
  unfold itH
  repeat' (first | ((with_reducible refine gA ?_); (first | refine AW_seq ?_ | refine AW_region ?_ | refine AW_ret ?_)) | ((with_reducible refine gS ?_); refine Es_s (T := Try.tab) rfl rfl rfl rfl ?_) | (((with_reducible refine gS ?_); apply Es_xg); rfl; rfl; refine LStep_callHN [(1000, 7)] [] cv rfl rfl ⟨rfl, trivial⟩ rfl ⟨hll, trivial⟩ rfl rfl; rfl) | (with_reducible refine Es_nil ?_) | (with_reducible refine then_n ?_) | ((with_reducible refine gR ?_); first | refine ret1 rfl ?_ | refine ret2 rfl rfl ?_ | refine ret0 ?_ | refine end1 rfl ?_ | refine end0 ?_))
  exact ⟨congrArg (AV.own 7) hlen, rfl, rfl, rfl, trivial⟩
theorem values_ac (l : List (ByteArray × Hld)) : AC Try.prog 56 [.mp 1003] [(1003, some (.map 9 67 (emap sV hV l) none))] [1003]
    (fun r h' => r = .fn 72 [.ptr 1 0] ∧ SubH [(1, some (.cells [.mp 1003])), (1003, some (.map 9 67 (emap sV hV l) none))] h') := by
  refine AC_enter Try.func56 rfl Try.ntmps56 (rv := [.tmp 2]) rfl rfl (by simp) (fun w X G => ?_)
  repeat' (first | ((with_reducible refine gA ?_); (first | refine AW_seq ?_ | refine AW_region ?_ | refine AW_ret ?_)) | ((with_reducible refine gS ?_); refine Es_s (T := Try.tab) rfl rfl rfl rfl ?_) | (refine Es_skip rfl ?_ rfl ?_; (first | rfl | (refine w_tf ?_; assumption) | (refine w_ft ?_; assumption))) | (((with_reducible refine gS ?_); apply Es_xs); rfl; rfl; refine LStep_boxN rfl rfl rfl rfl rfl rfl; rfl) | (with_reducible refine Es_nil ?_) | (with_reducible refine then_n ?_) | ((with_reducible refine gR ?_); first | refine ret1 rfl ?_ | refine ret2 rfl rfl ?_ | refine ret0 ?_ | refine end1 rfl ?_ | refine end0 ?_))
  exact ⟨rfl, rfl, rfl, trivial⟩
set_option maxRecDepth 10000 in
theorem holds_ac (s : Led) (hk : (akeys s.H).Nodup) (hl : s.H.length ≤ 1048576) (hi : idInj (mvals s.H)) : AC Try.prog 32 [.ptr 1000 0] (hL s) [1000, 1001, 1002, 1003]
    (fun r h' => r = .d (.sl 4 ((hsort (mvals s.H)).map Hld.enc)) ∧ SubH (hL s) h') := by
  have cv := values_ac s.H
  have cs := sortedFunc_ac s.H hk hl hi
  refine AC_enter Try.func32 rfl Try.ntmps32 (rv := [.tmp 2]) rfl rfl (by simp) (fun w X G => ?_)
  repeat' (first | ((with_reducible refine gRc ?_); refine AW_freeze [2] (id := 8) ⟨rfl, trivial⟩ rfl (List.length_map _) ?_) | ((with_reducible refine gA ?_); (first | refine AW_seq ?_ | refine AW_region ?_ | refine AW_ret ?_)) | ((with_reducible refine gS ?_); refine Es_s (T := Try.tab) rfl rfl rfl rfl ?_) | (((with_reducible refine gS ?_); apply Es_xg); rfl; rfl; (first | refine LStep_callHN [] [(1, 7)] cv rfl rfl ⟨rfl, trivial⟩ rfl ⟨trivial, trivial⟩ rfl rfl | refine LStep_callHN [(1000, 7)] [(7, 8)] cs rfl rfl ⟨rfl, rfl, trivial⟩ rfl ⟨trivial, trivial, trivial⟩ rfl rfl); rfl) | (with_reducible refine Es_nil ?_) | (with_reducible refine then_n ?_) | ((with_reducible refine gR ?_); first | refine ret1 rfl ?_ | refine ret2 rfl rfl ?_ | refine ret0 ?_ | refine end1 rfl ?_ | refine end0 ?_))
  exact ⟨rfl, rfl, rfl, rfl, rfl, trivial⟩
end Go.Proofs.Ytbekoielblcbmaa
